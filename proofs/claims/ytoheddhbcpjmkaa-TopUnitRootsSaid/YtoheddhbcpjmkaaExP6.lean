/-
  Summaries of calls that calculate with whole numbers: polynomials, filled in.
-/
/-
  Summaries of calls that part: what a call hands back, by tests of its arguments (whole numbers and floats).
-/
import Derived.Test.YtoheddhbcpjmkaaEx25

namespace Go.Ex
open Go Go.RowKit
noncomputable section

/-- The arguments' shape: 'none': a whole number; 'some k': k of them in one. -/
abbrev Shp := List (Option Nat)

def varsL : Nat → Nat → List Sc
  | _, 0 => []
  | v, n + 1 => .int .i64 (.poly (pvar v)) :: varsL (v + 1) n
def varArgs : Nat → Shp → List Sv
  | _, [] => []
  | v, none :: l => .one (.int .i64 (.poly (pvar v))) :: varArgs (v + 1) l
  | v, some k :: l => .agg (varsL v k) :: varArgs (v + k) l

def polyOf : Sc → Option Poly
  | .int .i64 x => toP x
  | _ => none
def polysOf : Nat → List Sc → Option (List Poly)
  | 0, [] => some []
  | n + 1, c :: l => match polyOf c, polysOf n l with
    | some p, some m => some (p :: m)
    | _, _ => none
  | _, _ => none
def argPolys : Shp → List Sv → Option (List Poly)
  | [], [] => some []
  | none :: s, .one c :: l => match polyOf c, argPolys s l with
    | some p, some m => some (p :: m)
    | _, _ => none
  | some k :: s, .agg cs :: l => match polysOf k cs, argPolys s l with
    | some ps, some m => some (ps ++ m)
    | _, _ => none
  | _, _ => none

/-- A polynomial with its variables filled in. -/
def subM (σ : List Poly) : Mon → Poly
  | [] => pconst 1
  | v :: m => match m with
    | [] => (match nth σ v with
      | some p => p
      | none => [])
    | m => (match nth σ v with
      | some p => ptimes p (subM σ m)
      | none => [])
def scaleP (c : Int) (p : Poly) : Poly := bif eqI c 1 then p else pmulT [] c p
def subP (σ : List Poly) : Poly → Poly
  | [] => []
  | (m, c) :: p => pplus (scaleP c (subM σ m)) (subP σ p)

theorem evP_scaleP (η : Nat → Int) (c : Int) (p : Poly) : evP η (scaleP c p) = c * evP η p := by
  unfold scaleP
  cases h : eqI c 1 with
  | true => rw [eqI_eq] at h; have := of_decide_eq_true h; subst this; simp
  | false => simp only [cond_false, evP_pmulT, evM]; simp

def valOf (η : Env) (σ : List Poly) (v : Nat) : Int :=
  match nth σ v with
  | some p => evP η.i p
  | none => 0

theorem subM_ev (η : Env) (σ : List Poly) : ∀ m, evP η.i (subM σ m) = evM (valOf η σ) m
  | [] => by simp [subM, evP_pconst, evM]
  | [v] => by
    simp only [subM, evM, Int.mul_one, valOf]
    cases nth σ v <;> rfl
  | v :: w :: m => by
    have ih := subM_ev η σ (w :: m)
    have e : subM σ (v :: w :: m) = (match nth σ v with
      | some p => ptimes p (subM σ (w :: m))
      | none => []) := rfl
    rw [e]
    simp only [evM, valOf] at ih ⊢
    cases nth σ v with
    | none => simp [evP]
    | some p => simp only [evP_ptimes, ih]
theorem subP_ev (η : Env) (σ : List Poly) : ∀ p, evP η.i (subP σ p) = evP (valOf η σ) p
  | [] => by simp [subP, evP]
  | (m, c) :: p => by simp only [subP, evP_pplus, evP_scaleP, subM_ev, subP_ev η σ p, evP]

/-- The result, filled in: whole numbers only. -/
def subSc (σ : List Poly) : Sc → Option Sc
  | .int .i64 (.poly p) => some (.int .i64 (mkI (subP σ p)))
  | .int .i64 (.lit n) => some (.int .i64 (.lit n))
  | .bool (.lit b) => some (.bool (.lit b))
  | _ => none
def subL (σ : List Poly) : List Sc → Option (List Sc)
  | [] => some []
  | c :: l => match subSc σ c, subL σ l with
    | some d, some m => some (d :: m)
    | _, _ => none
def subSv (σ : List Poly) : Sv → Option Sv
  | .one c => match subSc σ c with
    | some d => some (.one d)
    | none => none
  | .agg l => match subL σ l with
    | some m => some (.agg m)
    | none => none
  | _ => none

def gPoly (shp : Shp) (res : Sv) : List Sv → PC → Tree (Sv × PC) := fun l pc => match argPolys shp l with
  | some σ => match subSv σ res with
    | some s => .leaf (s, pc)
    | none => .fail
  | none => .fail

/-- Whole numbers that wrap to the same give the same, wrapped. -/
theorem wr_evM {f g : Nat → Int} (h : ∀ v, wr (f v) = wr (g v)) : ∀ m, wr (evM f m) = wr (evM g m)
  | [] => rfl
  | v :: m => by
    simp only [evM]
    rw [← wr_mul (f v), ← wr_mul (g v), h v, wr_evM h m]
theorem wr_evP {f g : Nat → Int} (h : ∀ v, wr (f v) = wr (g v)) : ∀ p, wr (evP f p) = wr (evP g p)
  | [] => rfl
  | (m, c) :: p => by
    simp only [evP]
    rw [← wr_add (c * evM f m), ← wr_add (c * evM g m), ← wr_mul c (evM f m), ← wr_mul c (evM g m), wr_evM h m, wr_evP h p]

theorem polyOf_den {η : Env} {E : Emb} {c : Sc} {p : Poly} (h : polyOf c = some p) : c.den η E = some (.int .i64 (wr (evP η.i p))) := by
  unfold polyOf at h
  split at h
  · simp only [Sc.den, toP_den h]
  · cases h
theorem polysOf_den {η : Env} {E : Emb} : ∀ {n : Nat} {l : List Sc} {ps : List Poly}, polysOf n l = some ps → ps.length = n ∧ denL η E l = some (ps.map fun p => .int .i64 (wr (evP η.i p)))
  | 0, [], ps, h => by cases h; exact ⟨rfl, rfl⟩
  | 0, _ :: _, ps, h => by cases h
  | n + 1, [], ps, h => by cases h
  | n + 1, c :: l, ps, h => by
    simp only [polysOf] at h
    split at h
    · rename_i p m h1 h2
      cases h
      obtain ⟨q1, q2⟩ := polysOf_den (η := η) (E := E) h2
      exact ⟨by simp [q1], by simp [denL, polyOf_den h1, q2]⟩
    · cases h

theorem varsL_den {η : Env} {E : Emb} : ∀ (n v : Nat) (as : List Int), as.length = n → (∀ j a, as[j]? = some a → wr (η.i (v + j)) = a) → denL η E (varsL v n) = some (as.map fun a => .int .i64 a)
  | 0, v, as, hl, _ => by
    have : as = [] := List.length_eq_zero_iff.1 hl
    subst this; rfl
  | n + 1, v, as, hl, h => by
    cases as with
    | nil => cases hl
    | cons a as =>
      have h0 := h 0 a rfl
      have ih := varsL_den (η := η) (E := E) n (v + 1) as (by simpa using hl) (fun j b hb => by have := h (j + 1) b (by simpa using hb); rwa [show v + (j + 1) = v + 1 + j by omega] at this)
      simp only [varsL, denL, Sc.den, Ix.den, evP_pvar, ih]
      simp only [Nat.add_zero] at h0
      simp [h0]

theorem nth_append_left {α : Type} {l m : List α} {i : Nat} (h : i < l.length) : nth (l ++ m) i = nth l i := by
  rw [nth_eq, nth_eq, List.getElem?_append_left h]

/-- The arguments as variables stand for the arguments, if the variables have their values. -/
theorem varArgs_den {η η' : Env} {E E' : Emb} : ∀ (shp : Shp) (svs : List Sv) (σ : List Poly) (v : Nat) (vs : List Value), argPolys shp svs = some σ → denArgs η E svs = some vs →
    (∀ j p, nth σ j = some p → wr (η'.i (v + j)) = wr (evP η.i p)) → denArgs η' E' (varArgs v shp) = some vs
  | [], [], σ, v, vs, h, hv, _ => by cases h; cases hv; rfl
  | [], _ :: _, σ, v, vs, h, _, _ => by cases h
  | none :: s, [], σ, v, vs, h, _, _ => by cases h
  | some k :: s, [], σ, v, vs, h, _, _ => by cases h
  | none :: s, sv :: l, σ, v, vs, h, hv, hη => by
    obtain ⟨x, xs, h1, h2, rfl⟩ := denArgs_cons hv
    cases sv <;> simp only [argPolys] at h <;> first | cases h | skip
    rename_i c
    split at h
    · rename_i p m hp hm
      cases h
      have hd := polyOf_den (η := η) (E := E) hp
      have h1 : c.den η E = some x := h1
      rw [hd] at h1; cases h1
      have ih := varArgs_den (η := η) (η' := η') (E := E) (E' := E') s l m (v + 1) xs hm h2 (fun j p' hp' => by
        have := hη (j + 1) p' (by rw [nth_eq] at hp' ⊢; simpa using hp')
        rwa [show v + (j + 1) = v + 1 + j by omega] at this)
      have h0 := hη 0 p (by rw [nth_eq]; rfl)
      simp only [Nat.add_zero] at h0
      simp only [varArgs, denArgs, Sv.den, Sc.den, Ix.den, evP_pvar, h0, ih]
    · cases h
  | some k :: s, sv :: l, σ, v, vs, h, hv, hη => by
    obtain ⟨x, xs, h1, h2, rfl⟩ := denArgs_cons hv
    cases sv <;> simp only [argPolys] at h <;> first | cases h | skip
    rename_i cs
    split at h
    · rename_i ps m hp hm
      cases h
      obtain ⟨hl, hd⟩ := polysOf_den (η := η) (E := E) hp
      simp only [Sv.den, hd, Option.map_some, Option.some.injEq] at h1
      subst h1
      have ih := varArgs_den (η := η) (η' := η') (E := E) (E' := E') s l m (v + k) xs hm h2 (fun j p' hp' => by
        have := hη (k + j) p' (by rw [nth_eq] at hp' ⊢; rw [List.getElem?_append_right (by omega)]; simpa [hl] using hp')
        rwa [show v + (k + j) = v + k + j by omega] at this)
      have hv := varsL_den (η := η') (E := E') k v (ps.map fun p => wr (evP η.i p)) (by simpa using hl) (fun j a ha => by
        rw [List.getElem?_map, Option.map_eq_some_iff] at ha
        obtain ⟨p, hp1, rfl⟩ := ha
        have hj : j < ps.length := (List.getElem?_eq_some_iff.1 hp1).1
        exact hη j p (by rw [nth_append_left hj, nth_eq]; exact hp1))
      simp only [varArgs, denArgs, Sv.den, hv, Option.map_some, ih, List.map_map]
      rfl
    · cases h

theorem subSc_den {η η' : Env} {E E' : Emb} {σ : List Poly} (h : ∀ v, wr (η'.i v) = wr (valOf η σ v)) {c d : Sc} (hs : subSc σ c = some d) : d.den η E = c.den η' E' := by
  unfold subSc at hs
  split at hs <;> first | cases hs | skip
  · rename_i p
    show some (Value.int .i64 ((mkI (subP σ p)).den η)) = some (Value.int .i64 (wr (evP η'.i p)))
    rw [mkI_den, subP_ev, wr_evP h]
  · rfl
  · rfl
theorem subL_den {η η' : Env} {E E' : Emb} {σ : List Poly} (h : ∀ v, wr (η'.i v) = wr (valOf η σ v)) : ∀ {l m : List Sc}, subL σ l = some m → denL η E m = denL η' E' l
  | [], m, hs => by cases hs; rfl
  | c :: l, m, hs => by
    simp only [subL] at hs
    split at hs
    · rename_i d m' h1 h2
      cases hs
      simp only [denL, subSc_den (E := E) (E' := E') h h1, subL_den (E := E) (E' := E') h h2]
    · cases hs
theorem subSv_den {η η' : Env} {E E' : Emb} {σ : List Poly} (h : ∀ v, wr (η'.i v) = wr (valOf η σ v)) {s t : Sv} (hs : subSv σ s = some t) : t.den η E = s.den η' E' := by
  unfold subSv at hs
  split at hs
  · split at hs
    · rename_i c d hd; cases hs; exact subSc_den h hd
    · cases hs
  · split at hs
    · rename_i l m hm; cases hs; simp only [Sv.den, subL_den (E := E) (E' := E') h hm]
    · cases hs
  · cases hs

def noTup : Sv → Bool
  | .one _ => true
  | .agg _ => true
  | _ => false

/-- Values for the variables: those of the arguments, in range. -/
def polyEnv (η : Env) (σ : List Poly) : Env := mkEnv (fun _ => 0) (fun v => valOf η σ v) (fun _ _ => false)

def shpLen : Shp → Nat
  | [] => 0
  | none :: l => shpLen l + 1
  | some k :: l => shpLen l + k
theorem argPolys_len : ∀ {shp : Shp} {svs : List Sv} {σ : List Poly}, argPolys shp svs = some σ → σ.length = shpLen shp
  | [], [], σ, h => by cases h; rfl
  | [], _ :: _, σ, h => by cases h
  | none :: s, [], σ, h => by cases h
  | some k :: s, [], σ, h => by cases h
  | none :: s, sv :: l, σ, h => by
    cases sv <;> simp only [argPolys] at h <;> first | cases h | skip
    split at h
    · rename_i p m hp hm
      cases h
      simp [shpLen, argPolys_len hm]
    · cases h
  | some k :: s, sv :: l, σ, h => by
    cases sv <;> simp only [argPolys] at h <;> first | cases h | skip
    split at h
    · rename_i ps m hp hm
      cases h
      simp [shpLen, argPolys_len hm, (polysOf_den (η := ⟨fun _ => 0, fun _ => 0, fun _ _ => false⟩) (E := E0) hp).1]; omega
    · cases h

theorem read_zero : Ieee.double.read 0 = .number false 0 (-1074) := by rw [dbl_read]; rfl
theorem wI_zero : wI 0 = some 0 := by
  unfold wI
  rw [read_zero]
  simp only
  rw [if_neg (by decide), Nat.zero_mod, if_pos rfl, Nat.zero_div]
  rfl

theorem polyEnv_i {η : Env} {σ : List Poly} (hl : σ.length ≤ 10000) (v : Nat) : wr ((polyEnv η σ).i v) = wr (valOf η σ v) := by
  simp only [polyEnv, mkEnv]
  split
  · rename_i hv
    have : nth σ v = none := by rw [nth_eq]; exact List.getElem?_eq_none (by omega)
    simp only [wI_zero, valOf, this]
    rfl
  · rw [wr_wr]

theorem poly_sum {P : Program} {C : Cx} (hC : ∀ η, GoodF η → C.Ok P η) {n : Nat} {f : FuncId} {fi : FI} {shp : Shp} {res : Sv} (hf : FI.Ok P f fi) (hsz : Nat.ble (shpLen shp) 10000 = true)
    (h : ((callE C (drawX C) n fi (varArgs 0 shp) st0).all fun r => svEq r.1 res) = true) (hb : below 0 res = true) {η : Env} : SumOk P η f (gPoly shp res) := by
  intro svs pc r pc' hg hpc
  unfold gPoly at hg
  split at hg
  · rename_i σ hσ
    split at hg
    · rename_i s hs
      cases hg
      refine ⟨hpc, fun E vs w hv => ?_⟩
      have hl : σ.length ≤ 10000 := by rw [argPolys_len hσ]; exact Nat.le_of_ble_eq_true hsz
      have hi := polyEnv_i (η := η) hl
      have hgood : GoodF (polyEnv η σ) := mkEnv_good (fun _ => by omega) _ _
      obtain ⟨x, hx, hxr⟩ := Tree.all_at (η := polyEnv η σ) h
      have hxr := svEq_iff hxr
      have hargs := varArgs_den (η := η) (η' := polyEnv η σ) (E := E) (E' := E0) shp svs σ 0 vs hσ hv (fun j p hp => by rw [Nat.zero_add, hi j]; simp only [valOf, hp])
      obtain ⟨v, e1, e2⟩ := run_sum (hC _ hgood) hf hx (by rw [hxr]; exact hb) w hargs
      rw [hxr] at e1
      exact ⟨v, by rw [subSv_den (E := E) (E' := E0) hi hs]; exact e1, .inr ⟨run_callFunc hf _ w, e2⟩⟩
    · cases hg
  · cases hg

end
end Go.Ex


namespace Go.Ex
open Go Go.RowKit
noncomputable section

/-- The leaves of the arguments: a whole number, a known one, a float, a complex number. -/
inductive AK where
  | i
  | k (n : Int)
  | f
  | c
abbrev Shq := List (Bool × List AK)

/-- A float among the arguments: a variable, or one whose number is known. -/
inductive FA where
  | var (k : Nat)
  | num (p : Poly) (x : Fx)
def FA.fx : FA → Fx
  | .var k => .var k
  | .num _ x => x
def FA.val (η : Env) : FA → Int
  | .var k => η.i (vF k)
  | .num p _ => evP η.i p
def FA.Ok (η : Env) : FA → Prop
  | .var _ => True
  | .num p x => wI (x.den η) = some (evP η.i p) ∧ (evP η.i p).natAbs < 9007199254740992 ∧ x.den η < 18446744073709551616

def faOf (pc : PC) : Fx → Option FA
  | .var k => some (.var k)
  | .ofI p => bif small53 pc p then some (.num p (.ofI p)) else none
  | .lit b => match wI b with
    | some n => bif (ltI (-9007199254740992) n && ltI n 9007199254740992) && Nat.blt b 18446744073709551616 then some (.num (pconst n) (.lit b)) else none
    | none => none
  | _ => none

theorem ofI_lt64 (n : Int) : FloatKind.f64.nearest n < 18446744073709551616 := Ieee.Format.write_lt Ieee.double (.number (n < 0) n.natAbs 0)

theorem faOf_ok {η : Env} (hg : GoodF η) {pc : PC} (hpc : pc.holds η) {x : Fx} {a : FA} (h : faOf pc x = some a) : a.fx = x ∧ a.Ok η := by
  unfold faOf at h
  split at h
  · cases h; exact ⟨rfl, trivial⟩
  · rename_i p
    cases hp : small53 pc p with
    | false => rw [hp] at h; cases h
    | true =>
      rw [hp] at h; cases h
      obtain ⟨h1, h2⟩ := small53_has hg.toGood hpc hp
      refine ⟨rfl, ?_, h1, ?_⟩
      · simp only [Fx.den]; rw [h2]; exact wI_nearest h1
      · exact ofI_lt64 _
  · rename_i b
    split at h
    · rename_i n hn
      cases hp : ((ltI (-9007199254740992) n && ltI n 9007199254740992) && Nat.blt b 18446744073709551616) with
      | false => rw [hp] at h; cases h
      | true =>
        rw [hp] at h; cases h
        simp only [Bool.and_eq_true, ltI_iff] at hp
        refine ⟨rfl, ?_, ?_, ?_⟩
        · simp only [Fx.den, evP_pconst]; exact hn
        · simp only [evP_pconst]; omega
        · simp only [Fx.den]; exact Nat.le_of_ble_eq_true hp.2
    · cases h
  · cases h

/-! ## The arguments -/
def nI1 : AK → Nat
  | .i => 1
  | _ => 0
def nF1 : AK → Nat
  | .f => 1
  | .c => 2
  | _ => 0
def nIs : List AK → Nat
  | [] => 0
  | k :: l => nI1 k + nIs l
def nFs : List AK → Nat
  | [] => 0
  | k :: l => nF1 k + nFs l
def canK (v f : Nat) : AK → Sc
  | .i => .int .i64 (.poly (pvar v))
  | .k n => .int .i64 (.lit n)
  | .f => .flt .f64 (.var f)
  | .c => .cpx .f64 (.var f) (.var (f + 1))
def canL : Nat → Nat → List AK → List Sc
  | _, _, [] => []
  | v, f, k :: l => canK v f k :: canL (v + nI1 k) (f + nF1 k) l
def mkArg : Bool → List Sc → Sv
  | true, l => .agg l
  | false, [c] => .one c
  | false, _ => .undef
def canA : Nat → Nat → Shq → List Sv
  | _, _, [] => []
  | v, f, (b, l) :: s => mkArg b (canL v f l) :: canA (v + nIs l) (f + nFs l) s
def nIq : Shq → Nat
  | [] => 0
  | (_, l) :: s => nIs l + nIq s
def nFq : Shq → Nat
  | [] => 0
  | (_, l) :: s => nFs l + nFq s

abbrev Sub := List Poly × List FA
def getK (pc : PC) : AK → Sc → Option Sub
  | .i, c => match polyOf c with
    | some p => some ([p], [])
    | none => none
  | .k n, .int .i64 (.lit m) => bif eqI n m then some ([], []) else none
  | .f, .flt .f64 x => match faOf pc x with
    | some a => some ([], [a])
    | none => none
  | .c, .cpx .f64 x y => match faOf pc x, faOf pc y with
    | some a, some b => some ([], [a, b])
    | _, _ => none
  | _, _ => none
def getL (pc : PC) : List AK → List Sc → Option Sub
  | [], [] => some ([], [])
  | k :: ks, c :: l => match getK pc k c, getL pc ks l with
    | some r, some q => some (r.1 ++ q.1, r.2 ++ q.2)
    | _, _ => none
  | _, _ => none
def getA (pc : PC) : Shq → List Sv → Option Sub
  | [], [] => some ([], [])
  | (true, ks) :: s, .agg cs :: l => match getL pc ks cs, getA pc s l with
    | some r, some q => some (r.1 ++ q.1, r.2 ++ q.2)
    | _, _ => none
  | (false, ks) :: s, .one c :: l => match getL pc ks [c], getA pc s l with
    | some r, some q => some (r.1 ++ q.1, r.2 ++ q.2)
    | _, _ => none
  | _, _ => none

/-- The variables of the summary have the values of the arguments. -/
structure Fit (η : Env) (s : Sub) (η' : Env) : Prop where
  gd : GoodF η'
  int : ∀ v p, nth s.1 v = some p → v < 10000 → wr (η'.i v) = wr (evP η.i p)
  flt : ∀ k a, nth s.2 k = some a → η'.f k = a.fx.den η
  val : ∀ k a, nth s.2 k = some a → η'.i (vF k) = a.val η
  ok : ∀ k a, nth s.2 k = some a → a.Ok η

theorem getL_cons {pc : PC} {k : AK} {ks : List AK} {l : List Sc} {s : Sub} (h : getL pc (k :: ks) l = some s) : ∃ c l' r q, l = c :: l' ∧ getK pc k c = some r ∧ getL pc ks l' = some q ∧ s = (r.1 ++ q.1, r.2 ++ q.2) := by
  cases l with
  | nil => cases h
  | cons c l =>
    simp only [getL] at h
    split at h
    · rename_i r q h1 h2
      cases h
      exact ⟨c, l, r, q, rfl, h1, h2, rfl⟩
    · cases h
theorem getL_nil {pc : PC} {l : List Sc} {s : Sub} (h : getL pc [] l = some s) : l = [] ∧ s = ([], []) := by
  cases l with
  | nil => cases h; exact ⟨rfl, rfl⟩
  | cons c l => cases h

theorem getK_ok {η η' : Env} {E E' : Emb} (hg : GoodF η) {pc : PC} (hpc : pc.holds η) {k : AK} {c : Sc} {s : Sub} (h : getK pc k c = some s) :
    s.1.length = nI1 k ∧ s.2.length = nF1 k ∧ (∀ a ∈ s.2, a.Ok η) ∧
    ∀ v f, (∀ j p, nth s.1 j = some p → wr (η'.i (v + j)) = wr (evP η.i p)) → (∀ j a, nth s.2 j = some a → η'.f (f + j) = a.fx.den η) → (canK v f k).den η' E' = c.den η E := by
  unfold getK at h
  split at h
  · split at h
    · rename_i p hp
      cases h
      refine ⟨rfl, rfl, fun a ha => (by cases ha), fun v f hi _ => ?_⟩
      have h0 := hi 0 p rfl
      simp only [Nat.add_zero] at h0
      rw [polyOf_den (η := η) (E := E) hp]
      simp only [canK, Sc.den, Ix.den, evP_pvar, h0]
    · cases h
  · cases he : eqI _ _ with
    | false => rw [he] at h; cases h
    | true =>
      rw [he] at h
      cases h
      refine ⟨rfl, rfl, fun a ha => (by cases ha), fun v f _ _ => ?_⟩
      rw [eqI_eq] at he
      have he := of_decide_eq_true he
      simp only [canK, Sc.den, Ix.den, he]
  · split at h
    · rename_i a ha
      cases h
      obtain ⟨q1, q2⟩ := faOf_ok hg hpc ha
      refine ⟨rfl, rfl, fun b hb => ?_, fun v f _ hf => ?_⟩
      · cases hb with
        | head => exact q2
        | tail _ hb => cases hb
      · have h0 := hf 0 a rfl
        simp only [Nat.add_zero, q1] at h0
        simp only [canK, Sc.den, Fx.den, h0]
    · cases h
  · split at h
    · rename_i a b ha hb
      cases h
      obtain ⟨q1, q2⟩ := faOf_ok hg hpc ha
      obtain ⟨q3, q4⟩ := faOf_ok hg hpc hb
      refine ⟨rfl, rfl, fun x hx => ?_, fun v f _ hf => ?_⟩
      · rcases List.mem_cons.1 hx with rfl | hx
        · exact q2
        · rcases List.mem_cons.1 hx with rfl | hx
          · exact q4
          · cases hx
      · have h0 := hf 0 a rfl
        have h1 := hf 1 b rfl
        simp only [Nat.add_zero, q1] at h0
        simp only [q3] at h1
        simp only [canK, Sc.den, Fx.den, h0, h1]
    · cases h
  · cases h

theorem getL_len {η : Env} (hg : GoodF η) {pc : PC} (hpc : pc.holds η) : ∀ {ks : List AK} {l : List Sc} {s : Sub}, getL pc ks l = some s → s.1.length = nIs ks ∧ s.2.length = nFs ks ∧ l.length = ks.length ∧ ∀ a ∈ s.2, a.Ok η := by
  intro ks
  induction ks with
  | nil => intro l s h; obtain ⟨rfl, rfl⟩ := getL_nil h; exact ⟨rfl, rfl, rfl, fun a ha => (by cases ha)⟩
  | cons k ks ih =>
    intro l s h
    obtain ⟨c, l', r, q, rfl, h1, h2, rfl⟩ := getL_cons h
    obtain ⟨a1, a2, a3, _⟩ := getK_ok (η' := η) (E := E0) (E' := E0) hg hpc h1
    obtain ⟨b1, b2, b3, b4⟩ := ih h2
    refine ⟨by simp [nIs, a1, b1], by simp [nFs, a2, b2], by simp [b3], fun a ha => ?_⟩
    rcases List.mem_append.1 ha with ha | ha
    · exact a3 a ha
    · exact b4 a ha

theorem nth_append_right {α : Type} {l m : List α} {j : Nat} {x : α} (h : nth m j = some x) : nth (l ++ m) (l.length + j) = some x := by
  rw [nth_eq] at h ⊢
  rw [List.getElem?_append_right (by omega)]
  simpa using h
theorem nth_append_of {α : Type} {l m : List α} {j : Nat} {x : α} (h : nth l j = some x) : nth (l ++ m) j = some x := by
  rw [nth_eq] at h ⊢
  rw [List.getElem?_append_left (List.getElem?_eq_some_iff.1 h).1]; exact h

theorem canL_den {η η' : Env} {E E' : Emb} (hg : GoodF η) {pc : PC} (hpc : pc.holds η) : ∀ (ks : List AK) (l : List Sc) (s : Sub) (v f : Nat), getL pc ks l = some s →
    (∀ j p, nth s.1 j = some p → wr (η'.i (v + j)) = wr (evP η.i p)) → (∀ j a, nth s.2 j = some a → η'.f (f + j) = a.fx.den η) → denL η' E' (canL v f ks) = denL η E l := by
  intro ks
  induction ks with
  | nil => intro l s v f h _ _; obtain ⟨rfl, rfl⟩ := getL_nil h; rfl
  | cons k ks ih =>
    intro l s v f h hi hf
    obtain ⟨c, l', r, q, rfl, h1, h2, rfl⟩ := getL_cons h
    obtain ⟨a1, a2, _, a4⟩ := getK_ok (η' := η') (E := E) (E' := E') hg hpc h1
    have e1 := a4 v f (fun j p hp => hi j p (nth_append_of hp)) (fun j p hp => hf j p (nth_append_of hp))
    have e2 := ih l' q (v + nI1 k) (f + nF1 k) h2 (fun j p hp => by have := hi (r.1.length + j) p (nth_append_right hp); rwa [a1, ← Nat.add_assoc] at this) (fun j p hp => by have := hf (r.2.length + j) p (nth_append_right hp); rwa [a2, ← Nat.add_assoc] at this)
    simp only [canL, denL, e1, e2]

theorem getA_cons {pc : PC} {b : Bool} {ks : List AK} {sh : Shq} {l : List Sv} {s : Sub} (h : getA pc ((b, ks) :: sh) l = some s) :
    ∃ cs l' r q, l = mkArg b cs :: l' ∧ getL pc ks cs = some r ∧ getA pc sh l' = some q ∧ s = (r.1 ++ q.1, r.2 ++ q.2) ∧ (b = false → cs.length = 1) := by
  cases l with
  | nil => cases b <;> cases h
  | cons c l =>
    cases b <;> cases c <;> simp only [getA] at h <;> first | (cases h; done) | skip
    all_goals
      split at h
      · rename_i r q g1 g2
        cases h
        exact ⟨_, l, r, q, rfl, g1, g2, rfl, fun _ => by first | rfl | contradiction⟩
      · cases h
theorem getA_nil {pc : PC} {l : List Sv} {s : Sub} (h : getA pc [] l = some s) : l = [] ∧ s = ([], []) := by
  cases l with
  | nil => cases h; exact ⟨rfl, rfl⟩
  | cons c l => cases h

theorem getA_ok {η : Env} (hg : GoodF η) {pc : PC} (hpc : pc.holds η) : ∀ {sh : Shq} {l : List Sv} {s : Sub}, getA pc sh l = some s → ∀ a ∈ s.2, a.Ok η := by
  intro sh
  induction sh with
  | nil => intro l s h a ha; obtain ⟨rfl, rfl⟩ := getA_nil h; cases ha
  | cons k sh ih =>
    intro l s h
    obtain ⟨b, ks⟩ := k
    obtain ⟨cs, l', r, q, rfl, h1, h2, rfl, _⟩ := getA_cons h
    intro a ha
    rcases List.mem_append.1 ha with ha | ha
    · exact (getL_len hg hpc h1).2.2.2 a ha
    · exact ih h2 a ha

theorem mkArg_den {η η' : Env} {E E' : Emb} {b : Bool} {l m : List Sc} (hb : b = false → l.length = 1 ∧ m.length = 1) (h : denL η' E' m = denL η E l) : (mkArg b m).den η' E' = (mkArg b l).den η E := by
  cases b with
  | true => simp only [mkArg, Sv.den, h]
  | false =>
    obtain ⟨h1, h2⟩ := hb rfl
    match l, m, h1, h2 with
    | [c], [d], _, _ =>
      simp only [denL] at h
      simp only [mkArg, Sv.den]
      cases hc : c.den η E <;> cases hd : d.den η' E' <;> simp [hc, hd] at h ⊢
      exact h

theorem canL_len : ∀ (v f : Nat) (ks : List AK), (canL v f ks).length = ks.length
  | _, _, [] => rfl
  | v, f, k :: ks => by simp [canL, canL_len]

theorem canA_den {η η' : Env} {E E' : Emb} (hg : GoodF η) {pc : PC} (hpc : pc.holds η) : ∀ (sh : Shq) (l : List Sv) (s : Sub) (v f : Nat) (vs : List Value), getA pc sh l = some s → denArgs η E l = some vs →
    (∀ j p, nth s.1 j = some p → wr (η'.i (v + j)) = wr (evP η.i p)) → (∀ j a, nth s.2 j = some a → η'.f (f + j) = a.fx.den η) → denArgs η' E' (canA v f sh) = some vs := by
  intro sh
  induction sh with
  | nil => intro l s v f vs h hv _ _; obtain ⟨rfl, rfl⟩ := getA_nil h; exact hv
  | cons k sh ih =>
    intro l s v f vs h hv hi hf
    obtain ⟨b, ks⟩ := k
    obtain ⟨cs, l', r, q, rfl, g1, g2, rfl, hb⟩ := getA_cons h
    obtain ⟨x, xs, h1, h2, rfl⟩ := denArgs_cons hv
    obtain ⟨n1, n2, n3, _⟩ := getL_len hg hpc g1
    have ih' := ih l' q (v + nIs ks) (f + nFs ks) xs g2 h2 (fun j p hp => by have := hi (r.1.length + j) p (nth_append_right hp); rwa [n1, ← Nat.add_assoc] at this) (fun j p hp => by have := hf (r.2.length + j) p (nth_append_right hp); rwa [n2, ← Nat.add_assoc] at this)
    have hl := canL_den (E := E) (E' := E') hg hpc ks cs r v f g1 (fun j p hp => hi j p (nth_append_of hp)) (fun j p hp => hf j p (nth_append_of hp))
    have hd := mkArg_den (b := b) (fun hb' => ⟨hb hb', by rw [canL_len, ← n3]; exact hb hb'⟩) hl
    simp only [canA, denArgs, hd, h1, ih']

/-! ## Filling in -/
def polyFor (s : Sub) (v : Nat) : Option Poly := bif Nat.ble 10000 v then (match nth s.2 (v - 10000) with
    | some (.var k) => some (pvar (vF k))
    | some (.num p _) => some p
    | none => none) else nth s.1 v
theorem polyFor_ok {η η' : Env} {s : Sub} (hM : Fit η s η') {v : Nat} {p : Poly} (h : polyFor s v = some p) : wr (η'.i v) = wr (evP η.i p) := by
  unfold polyFor at h
  cases hv : Nat.ble 10000 v with
  | true =>
    rw [hv] at h
    have hv := Nat.le_of_ble_eq_true hv
    obtain ⟨j, rfl⟩ : ∃ j, v = 10000 + j := ⟨v - 10000, by omega⟩
    simp only [cond_true, Nat.add_sub_cancel_left] at h
    split at h
    · rename_i k hk
      cases h
      have := hM.val _ _ hk
      simp only [FA.val] at this
      rw [evP_pvar, ← this]
    · rename_i q x hk
      cases h
      have := hM.val _ _ hk
      simp only [FA.val] at this
      rw [← this]
    · cases h
  | false =>
    rw [hv] at h
    have : ¬ 10000 ≤ v := fun hh => by rw [Nat.ble_eq_true_of_le hh] at hv; cases hv
    exact hM.int v p h (by omega)

def nilM : Mon → Bool
  | [] => true
  | _ => false
def subMo (s : Sub) : Mon → Option Poly
  | [] => some (pconst 1)
  | v :: m => match polyFor s v, subMo s m with
    | some p, some q => some (bif nilM m then p else ptimes p q)
    | _, _ => none
def subPo (s : Sub) : Poly → Option Poly
  | [] => some []
  | (m, c) :: p => match subMo s m, subPo s p with
    | some q, some r => some (pplus (scaleP c q) r)
    | _, _ => none
theorem subMo_ok {η η' : Env} {s : Sub} (hM : Fit η s η') : ∀ {m : Mon} {q : Poly}, subMo s m = some q → wr (evM η'.i m) = wr (evP η.i q)
  | [], q, h => by cases h; simp [evM, evP_pconst]
  | v :: m, q, h => by
    simp only [subMo] at h
    split at h
    · rename_i p r h1 h2
      cases h
      have ih := subMo_ok hM h2
      have h0 := polyFor_ok hM h1
      cases m with
      | nil => simp only [nilM, cond_true, evM, Int.mul_one]; exact h0
      | cons w m =>
        simp only [nilM, cond_false]
        rw [evP_ptimes, ← wr_mul, ← h0, ← ih, wr_mul]; rfl
    · cases h
theorem subPo_ok {η η' : Env} {s : Sub} (hM : Fit η s η') : ∀ {p q : Poly}, subPo s p = some q → wr (evP η'.i p) = wr (evP η.i q)
  | [], q, h => by cases h; rfl
  | (m, c) :: p, q, h => by
    simp only [subPo] at h
    split at h
    · rename_i a b h1 h2
      cases h
      have e1 := subMo_ok hM h1
      have e2 := subPo_ok hM h2
      simp only [evP, evP_pplus, evP_scaleP]
      rw [← wr_add, ← wr_mul, e1, e2, wr_mul, wr_add]
    · cases h
def subPs (s : Sub) : List Poly → Option (List Poly)
  | [] => some []
  | p :: l => match subPo s p, subPs s l with
    | some q, some m => some (q :: m)
    | _, _ => none
theorem subPs_ok {η η' : Env} {s : Sub} (hM : Fit η s η') (m : Int) : ∀ {l k : List Poly}, subPs s l = some k → allS η' m l = allS η m k
  | [], k, h => by cases h; rfl
  | p :: l, k, h => by
    simp only [subPs] at h
    split at h
    · rename_i q r h1 h2
      cases h
      simp only [allS, subPo_ok hM h1, subPs_ok hM m h2]
    · cases h

/-- A float made of a whole number, as the executor spells it. -/
def mkF (p : Poly) : Fx :=
  match mkI p with
  | .lit n => .lit (FloatKind.f64.nearest n)
  | _ => .ofI p
theorem mkF_den (η : Env) (p : Poly) : (mkF p).den η = FloatKind.f64.nearest (wr (evP η.i p)) := by
  have h := mkI_den η p
  unfold mkF
  split
  · rename_i n hn; rw [hn] at h; simp only [Ix.den] at h; simp only [Fx.den, ← h]
  · rfl
def subFx (s : Sub) : Fx → Option Fx
  | .lit b => some (.lit b)
  | .var k => match nth s.2 k with
    | some a => some a.fx
    | none => none
  | .ofI p => match subPo s p with
    | some q => some (mkF q)
    | none => none
  | _ => none
theorem subFx_ok {η η' : Env} {s : Sub} (hM : Fit η s η') {x y : Fx} (h : subFx s x = some y) : y.den η = x.den η' := by
  unfold subFx at h
  split at h
  · cases h; rfl
  · split at h
    · rename_i a ha; cases h; exact (hM.flt _ _ ha).symm
    · cases h
  · split at h
    · rename_i q hq; cases h; rw [mkF_den, ← subPo_ok hM hq]; rfl
    · cases h
  · cases h
def subSo (s : Sub) : Sc → Option Sc
  | .int .i64 (.poly p) => match subPo s p with
    | some q => some (.int .i64 (mkI q))
    | none => none
  | .int .i64 (.lit n) => some (.int .i64 (.lit n))
  | .bool (.lit b) => some (.bool (.lit b))
  | .flt .f64 x => match subFx s x with
    | some y => some (.flt .f64 y)
    | none => none
  | .cpx .f64 x y => match subFx s x, subFx s y with
    | some a, some b => some (.cpx .f64 a b)
    | _, _ => none
  | _ => none
theorem subSo_ok {η η' : Env} {s : Sub} (hM : Fit η s η') {E E' : Emb} {c d : Sc} (h : subSo s c = some d) : d.den η E = c.den η' E' := by
  unfold subSo at h
  split at h
  · split at h
    · rename_i p _ q hq
      cases h
      show some (Value.int .i64 ((mkI q).den η)) = some (Value.int .i64 (wr (evP η'.i p)))
      rw [mkI_den, subPo_ok hM hq]
    · cases h
  · cases h; rfl
  · cases h; rfl
  · split at h
    · rename_i y hy; cases h; simp only [Sc.den, subFx_ok hM hy]
    · cases h
  · split at h
    · rename_i a b ha hb; cases h; simp only [Sc.den, subFx_ok hM ha, subFx_ok hM hb]
    · cases h
  · cases h
def subLo (s : Sub) : List Sc → Option (List Sc)
  | [] => some []
  | c :: l => match subSo s c, subLo s l with
    | some d, some m => some (d :: m)
    | _, _ => none
theorem subLo_ok {η η' : Env} {s : Sub} (hM : Fit η s η') {E E' : Emb} : ∀ {l m : List Sc}, subLo s l = some m → denL η E m = denL η' E' l
  | [], m, h => by cases h; rfl
  | c :: l, m, h => by
    simp only [subLo] at h
    split at h
    · rename_i d r h1 h2
      cases h
      simp only [denL, subSo_ok hM (E := E) (E' := E') h1, subLo_ok hM (E := E) (E' := E') h2]
    · cases h
def subTo (s : Sub) : List (Bool × List Sc) → Option (List (Bool × List Sc))
  | [] => some []
  | (b, l) :: t => match subLo s l, subTo s t with
    | some m, some u => some ((b, m) :: u)
    | _, _ => none
theorem subLo_len {s : Sub} : ∀ {l m : List Sc}, subLo s l = some m → m.length = l.length
  | [], m, h => by cases h; rfl
  | c :: l, m, h => by
    simp only [subLo] at h
    split at h
    · rename_i d r h1 h2
      cases h
      simp [subLo_len h2]
    · cases h
theorem denPart_eq {η η' : Env} {E E' : Emb} {b : Bool} {l m : List Sc} (hl : m.length = l.length) (h : denL η E m = denL η' E' l) : denPart η E (b, m) = denPart η' E' (b, l) := by
  cases b with
  | true => simp only [denPart, h]
  | false =>
    match l, m, hl with
    | [], [], _ => rfl
    | [c], [d], _ =>
      simp only [denL] at h
      simp only [denPart]
      cases hc : c.den η' E' <;> cases hd : d.den η E <;> simp [hc, hd] at h ⊢
      exact h
    | _ :: _ :: _, _ :: _ :: _, _ => rfl
theorem subTo_ok {η η' : Env} {s : Sub} (hM : Fit η s η') {E E' : Emb} : ∀ {l m : List (Bool × List Sc)}, subTo s l = some m → denParts η E m = denParts η' E' l
  | [], m, h => by cases h; rfl
  | (b, c) :: l, m, h => by
    simp only [subTo] at h
    split at h
    · rename_i d r h1 h2
      cases h
      simp only [denParts, denPart_eq (b := b) (subLo_len h1) (subLo_ok hM (E := E) (E' := E') h1), subTo_ok hM (E := E) (E' := E') h2]
    · cases h
def subVo (s : Sub) : Sv → Option Sv
  | .one c => match subSo s c with
    | some d => some (.one d)
    | none => none
  | .agg l => match subLo s l with
    | some m => some (.agg m)
    | none => none
  | .tup l => match subTo s l with
    | some m => some (.tup m)
    | none => none
  | .undef => none
theorem subVo_ok {η η' : Env} {s : Sub} (hM : Fit η s η') {E E' : Emb} {x y : Sv} (h : subVo s x = some y) : y.den η E = x.den η' E' := by
  unfold subVo at h
  split at h
  · split at h
    · rename_i d hd; cases h; exact subSo_ok hM hd
    · cases h
  · split at h
    · rename_i d hd; cases h; simp only [Sv.den, subLo_ok hM (E := E) (E' := E') hd]
    · cases h
  · split at h
    · rename_i d hd; cases h; simp only [Sv.den, subTo_ok hM (E := E) (E' := E') hd]
    · cases h
  · cases h

end
end Go.Ex

