/-
  Sums, roots, and questions about balls, by values.
-/
import Derived.Test.YtoheddhbcpjmkaaLwUnC
import Derived.Test.YtoheddhbcpjmkaaFlC
import Derived.Test.YtoheddhbcpjmkaaLwBaM

namespace Go.Ex
open Go Go.Proofs Go.RowKit
noncomputable section
def balT (t : Tri) : Value := ballV t.1 t.2.1 t.2.2
def TIn (t : Tri) : Prop := BIn t.1 t.2.1 t.2.2
theorem inT_iff {t : Tri} (h : inT t = true) : TIn t := by
  simp only [inT, Bool.and_eq_true, leI_iff] at h
  exact ⟨h.1, h.2.1, h.2.2⟩
theorem fitT_some {t u : Tri} (h : fitT t = some u) : t = u ∧ TIn t := by
  unfold fitT at h
  cases hb : inT t with
  | true => rw [hb] at h; cases h; exact ⟨rfl, inT_iff hb⟩
  | false => rw [hb] at h; cases h
theorem ballS_den {η : Env} {E : Emb} {v : Nat} {t : Tri} (h0 : η.i v = t.1) (h1 : η.i (v + 1) = t.2.1) (h2 : η.i (v + 2) = t.2.2) (ht : TIn t) : (ballS v).den η E = some (balT t) := by
  obtain ⟨a, b, c⟩ := ht
  simp only [ballS, Sv.den, denL, Sc.den, Fx.den, Ix.den, evP_pvar, h0, h1, h2, Option.map_some, wr_mid (x := t.1) (by omega), wr_mid (x := t.2.1) (by omega), wr_mid (x := t.2.2) (by omega)]
  rfl
def resS (v : Nat) : Sv := .tup [(true, [.cpx .f64 (.ofI (pvar v)) (.ofI (pvar (v + 1))), .int .i64 (.poly (pvar (v + 2)))]), (false, [.int .i64 (.lit 0)])]
theorem resS_den {η : Env} {E : Emb} {v : Nat} {t : Tri} (h0 : η.i v = t.1) (h1 : η.i (v + 1) = t.2.1) (h2 : η.i (v + 2) = t.2.2) (ht : TIn t) : (resS v).den η E = some (outT t) :=
  outV_den (r := .poly (pvar (v + 2))) (by rw [evP_pvar, h0]; exact wr_mid (by have := ht.1; omega)) (by rw [evP_pvar, h1]; exact wr_mid (by have := ht.2.1; omega)) (show wr (evP η.i (pvar (v + 2))) = t.2.2 by rw [evP_pvar, h2]; exact wr_mid (by have := ht.2.2; omega))
structure SixV (η : Env) (t u : Tri) : Prop where
  g : GoodF η
  v0 : η.i 0 = t.1
  v1 : η.i 1 = t.2.1
  v2 : η.i 2 = t.2.2
  v3 : η.i 3 = u.1
  v4 : η.i 4 = u.2.1
  v5 : η.i 5 = u.2.2
theorem six_v {t u : Tri} (ht : TIn t) (hu : TIn u) : ∃ η, SixV η t u := by
  obtain ⟨a1, a2, a3⟩ := ht
  obtain ⟨b1, b2, b3⟩ := hu
  obtain ⟨l, hl⟩ : ∃ l, l = [t.1, t.2.1, t.2.2, u.1, u.2.1, u.2.2] := ⟨_, rfl⟩
  exact ⟨vEnv l, vEnv_good l, by rw [hl]; exact vEnv_i rfl (by decide) (by omega), by rw [hl]; exact vEnv_i rfl (by decide) (by omega), by rw [hl]; exact vEnv_i rfl (by decide) (by omega), by rw [hl]; exact vEnv_i rfl (by decide) (by omega), by rw [hl]; exact vEnv_i rfl (by decide) (by omega), by rw [hl]; exact vEnv_i rfl (by decide) (by omega)⟩
theorem bndB_of {η : Env} {v : Nat} {t : Tri} (h0 : η.i v = t.1) (h1 : η.i (v + 1) = t.2.1) (h2 : η.i (v + 2) = t.2.2) (ht : TIn t) : PC.holds η (bndB v) := by
  obtain ⟨a, b, c⟩ := ht
  exact holds_ap (upTo_of (by rw [h0]; exact a)) (holds_ap (upTo_of (by rw [h1]; exact b)) (upTo_of (by rw [h2]; exact c)))
theorem SixV.pc {η : Env} {t u : Tri} (h : SixV η t u) (ht : TIn t) (hu : TIn u) : PC.holds η argB := holds_ap (bndB_of h.v0 h.v1 h.v2 ht) (bndB_of h.v3 h.v4 h.v5 hu)
theorem SixV.args {η : Env} {t u : Tri} (h : SixV η t u) (ht : TIn t) (hu : TIn u) (E : Emb) : denArgs η E [ballS 0, ballS 3] = some [balT t, balT u] := by
  simp only [denArgs, ballS_den h.v0 h.v1 h.v2 ht, ballS_den h.v3 h.v4 h.v5 hu]

/-! ## Sums -/
def fitP (p : Poly) : PC := [(.pos (pminus p (pconst 67108864)), false), (.pos (pminus (pneg p) (pconst 67108864)), false)]
def plPc : PC := fitP (pplus (pvar 0) (pvar 3)) ++ (fitP (pplus (pvar 1) (pvar 4)) ++ ((.pos (pminus (pplus (pvar 2) (pvar 5)) (pconst 67108864)), false) :: argB))
def plRun : Tree (Sv × St) := callE (mkC smA) (drawX (mkC smA)) 3000 (FI.of Try.f7 true) [ballS 0, ballS 3] (stP plPc)
def plOk (r : Sv × St) : Bool := svEq r.1 (.tup [(true, [.cpx .f64 (.ofI (pplus (pvar 0) (pvar 3))) (.ofI (pplus (pvar 1) (pvar 4))), .int .i64 (.poly (pplus (pvar 2) (pvar 5)))]), (false, [.int .i64 (.lit 0)])])
set_option maxRecDepth 100000
theorem plRunOk : plRun.all plOk = true := by kernel_rfl
theorem fitP_of {η : Env} {p : Poly} (h : -67108864 ≤ evP η.i p ∧ evP η.i p ≤ 67108864) : PC.holds η (fitP p) := fun x hx => by
  simp only [fitP, List.mem_cons, List.not_mem_nil, or_false] at hx
  rcases hx with rfl | rfl
  · simp only [Atom.den, evP_pminus, evP_pconst]; exact decide_eq_false (by omega)
  · simp only [Atom.den, evP_pminus, evP_pneg, evP_pconst]; exact decide_eq_false (by omega)
theorem plus_at {t u s : Tri} (ht : TIn t) (hu : TIn u) (h : plusF t u = some s) (w : World) : Calls Try.prog 7 #[balT t, balT u] w fun e w' => e = .returned (outT s) ∧ Below w.heap.size w w' := by
  obtain ⟨rfl, hs⟩ := fitT_some h
  obtain ⟨s1, s2, s3⟩ := hs
  simp only at s1 s2 s3
  obtain ⟨η, k⟩ := six_v ht hu
  have p1 : evP η.i (pplus (pvar 0) (pvar 3)) = t.1 + u.1 := by rw [evP_pplus, evP_pvar, evP_pvar, k.v0, k.v3]
  have p2 : evP η.i (pplus (pvar 1) (pvar 4)) = t.2.1 + u.2.1 := by rw [evP_pplus, evP_pvar, evP_pvar, k.v1, k.v4]
  have p3 : evP η.i (pplus (pvar 2) (pvar 5)) = t.2.2 + u.2.2 := by rw [evP_pplus, evP_pvar, evP_pvar, k.v2, k.v5]
  have hpc : PC.holds η plPc := holds_ap (fitP_of (by rw [p1]; exact s1)) (holds_ap (fitP_of (by rw [p2]; exact s2)) (holds_cs (by simp only [Atom.den, evP_pminus, evP_pconst, p3]; exact decide_eq_false (by omega)) (k.pc ht hu)))
  obtain ⟨r, hr, hrr⟩ := Tree.all_at (η := η) plRunOk
  have hrr := svEq_iff hrr
  obtain ⟨v, e1, e2, e3⟩ := run_sumP (mkC_ok k.g (smA_ok k.g)) Try.fok7 hpc hr (by rw [hrr]; rfl) w (k.args ht hu E0)
  have hd : r.1.den η E0 = some (outT (t.1 + u.1, t.2.1 + u.2.1, t.2.2 + u.2.2)) := by
    rw [hrr]
    simp only [Sv.den, denParts, denPart, denL, Sc.den, Fx.den, Ix.den, p1, p2, p3, wr_mid (x := t.1 + u.1) (by omega), wr_mid (x := t.2.1 + u.2.1) (by omega), wr_mid (x := t.2.2 + u.2.2) (by omega), Option.map_some, outT, outV, ballV]
  rw [hd] at e1
  cases e1
  exact e3

/-! ## Questions -/
def cxS (a b : Nat) : Sv := .one (.cpx .f64 (.ofI (pvar a)) (.ofI (pvar b)))
def askS (p : Poly) : Sv := .tup [(false, [.bool (.at_ true (.pos p))]), (false, [.int .i64 (.lit 0)])]
def ctP : Poly := pminus (pplus (ptimes (pminus (pvar 3) (pvar 0)) (pminus (pvar 3) (pvar 0))) (ptimes (pminus (pvar 4) (pvar 1)) (pminus (pvar 4) (pvar 1)))) (ptimes (pvar 2) (pvar 2))
def ctRun : Tree (Sv × St) := callE (mkC smA) (drawX (mkC smA)) 3000 (FI.of Try.f15 true) [ballS 0, cxS 3 4] (stP argB)
def m2P : Poly := pminus (pplus (ptimes (pminus (pvar 0) (pvar 3)) (pminus (pvar 0) (pvar 3))) (ptimes (pminus (pvar 1) (pvar 4)) (pminus (pvar 1) (pvar 4)))) (ptimes (pplus (pvar 2) (pvar 5)) (pplus (pvar 2) (pvar 5)))
def m2Run : Tree (Sv × St) := callE (mkC smA) (drawX (mkC smA)) 3000 (FI.of Try.f20 true) [ballS 0, ballS 3] (stP argB)
def aOk' (p : Poly) (r : Sv × St) : Bool := match r.1 with
  | .tup [(false, [.bool (.at_ true (.pos q))]), (false, [.int .i64 (.lit n)])] => polyEq q p && eqI n 0
  | _ => false
theorem aOk_iff {p : Poly} {r : Sv × St} (h : aOk' p r = true) : r.1 = askS p := by
  unfold aOk' at h
  split at h
  · rename_i q n e
    simp only [Bool.and_eq_true] at h
    have h2 := h.2
    rw [eqI_eq] at h2
    rw [e, polyEq_iff h.1, of_decide_eq_true h2]
    rfl
  · cases h
theorem ctRunOk : ctRun.all (aOk' ctP) = true := by kernel_rfl
theorem m2RunOk : m2Run.all (aOk' m2P) = true := by kernel_rfl
def yes (b : Bool) : Value := .tuple #[.bool b, .int .i64 0]
theorem askS_den {η : Env} {E : Emb} {p : Poly} {b : Bool} (h : decide (0 < evP η.i p) = !b) : (askS p).den η E = some (yes b) := by
  simp only [askS, Sv.den, denParts, denPart, Sc.den, Bx.den, Atom.den, h, Option.map_some, yes]
  cases b <;> rfl
theorem leB {a b : Int} : decide (0 < a - b) = !(leI a b) := by
  cases h : leI a b with
  | true => have := leI_iff.1 h; exact decide_eq_false (by omega)
  | false =>
    have : ¬ a ≤ b := fun hh => by rw [leI_iff.2 hh] at h; cases h
    exact decide_eq_true (by omega)
theorem cont_at {t : Tri} {x y : Int} (ht : TIn t) (hx : -67108864 ≤ x ∧ x ≤ 67108864) (hy : -67108864 ≤ y ∧ y ≤ 67108864) (w : World) :
    Calls Try.prog 15 #[balT t, .complex .f64 (FloatKind.f64.nearest x) (FloatKind.f64.nearest y)] w fun e w' => e = .returned (yes (nearT (x, y, 0) t t.2.2)) ∧ Below w.heap.size w w' := by
  have hu : TIn (x, y, 0) := ⟨hx, hy, Int.le_refl 0, (by decide : (0 : Int) ≤ 67108864)⟩
  obtain ⟨η, k⟩ := six_v ht hu
  have k3 : η.i 3 = x := k.v3
  have k4 : η.i 4 = y := k.v4
  obtain ⟨r, hr, hrr⟩ := Tree.all_at (η := η) ctRunOk
  have hrr := aOk_iff hrr
  have hargs : denArgs η E0 [ballS 0, cxS 3 4] = some [balT t, .complex .f64 (FloatKind.f64.nearest x) (FloatKind.f64.nearest y)] := by
    have hz : (cxS 3 4).den η E0 = some (.complex .f64 (FloatKind.f64.nearest x) (FloatKind.f64.nearest y)) := by
      simp only [cxS, Sv.den, Sc.den, Fx.den, evP_pvar, k3, k4, wr_mid (x := x) (by omega), wr_mid (x := y) (by omega)]
    simp only [denArgs, ballS_den k.v0 k.v1 k.v2 ht, hz]
  obtain ⟨v, e1, e2, e3⟩ := run_sumP (mkC_ok k.g (smA_ok k.g)) Try.fok15 (k.pc ht hu) hr (by rw [hrr]; rfl) w hargs
  have hd : r.1.den η E0 = some (yes (nearT (x, y, 0) t t.2.2)) := by
    rw [hrr]
    refine askS_den ?_
    simp only [ctP, evP_pminus, evP_pplus, evP_ptimes, evP_pvar, k.v0, k.v1, k.v2, k3, k4]
    exact leB
  rw [hd] at e1
  cases e1
  exact e3
theorem meet_at {t u : Tri} (ht : TIn t) (hu : TIn u) (w : World) : Calls Try.prog 20 #[balT t, balT u] w fun e w' => e = .returned (yes (nearT t u (t.2.2 + u.2.2))) ∧ Below w.heap.size w w' := by
  obtain ⟨η, k⟩ := six_v ht hu
  obtain ⟨r, hr, hrr⟩ := Tree.all_at (η := η) m2RunOk
  have hrr := aOk_iff hrr
  obtain ⟨v, e1, e2, e3⟩ := run_sumP (mkC_ok k.g (smA_ok k.g)) Try.fok20 (k.pc ht hu) hr (by rw [hrr]; rfl) w (k.args ht hu E0)
  have hd : r.1.den η E0 = some (yes (nearT t u (t.2.2 + u.2.2))) := by
    rw [hrr]
    refine askS_den ?_
    simp only [m2P, evP_pminus, evP_pplus, evP_ptimes, evP_pvar, k.v0, k.v1, k.v2, k.v3, k.v4, k.v5]
    exact leB
  rw [hd] at e1
  cases e1
  exact e3
def smW : T (List Sv → PC → Tree (Sv × PC)) := smA.set 49 (some gWhole)
def cbRun : Tree (Sv × St) := callE (mkC smW) (drawX (mkC smW)) 3000 (FI.of Try.f18 true) [ballS 0] (stP argB)
def cbOk (r : Sv × St) : Bool := svEq r.1 (.one (.int .i64 (.lit 0)))
theorem cbRunOk : cbRun.all cbOk = true := by kernel_rfl
theorem call49 (args : Array Value) (w : World) : (callFunc 49 args).run Try.prog w = .ok (.enter 49 args) w := run_callFunc Try.fok49 args w
theorem check_at {t : Tri} (ht : TIn t) (w : World) : Calls Try.prog 18 #[balT t] w fun e w' => e = .returned (.int .i64 0) ∧ Below w.heap.size w w' := by
  obtain ⟨η, k⟩ := six_v ht ht
  have hs : SumsOk Try.prog η smW := (smA_ok k.g).set (by decide) (gWhole_gen k.g call49 fun b _ w => isWhole2_calls b w)
  obtain ⟨r, hr, hrr⟩ := Tree.all_at (η := η) cbRunOk
  have hrr := svEq_iff hrr
  obtain ⟨v, e1, e2, e3⟩ := run_sumP (mkC_ok k.g hs) Try.fok18 (k.pc ht ht) hr (by rw [hrr]; rfl) w (vs := [balT t]) (by simp only [denArgs, ballS_den k.v0 k.v1 k.v2 ht])
  have hd : r.1.den η E0 = some (.int .i64 0) := by rw [hrr]; rfl
  rw [hd] at e1
  cases e1
  exact e3
theorem times_at {t u s : Tri} (ht : TIn t) (hu : TIn u) (h : timF t u = some s) (w : World) : Calls Try.prog 9 #[balT t, balT u] w fun e w' => e = .returned (outT s) ∧ Below w.heap.size w w' := by
  obtain ⟨rfl, hs⟩ := fitT_some h
  have h3 := outB_of hs
  have := times_any ht hu w
  have e : outV (timB t.1 t.2.1 t.2.2 u.1 u.2.1 u.2.2) = outT (timR t.1 t.2.1 t.2.2 u.1 u.2.1 u.2.2, timI t.1 t.2.1 t.2.2 u.1 u.2.1 u.2.2, timL t.1 t.2.1 t.2.2 u.1 u.2.1 u.2.2) := by
    obtain ⟨e0, e1, e2, _⟩ := outB_ok h3
    simp only [outT, outV, timB, e0, e1, e2, h3]
  rw [e] at this
  exact this
end
end Go.Ex

