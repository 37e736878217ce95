/- The run of the law of the ways that meet. -/
import Derived.Test.YtoheddhbcpjmkaaLwBaF
import Derived.Test.YtoheddhbcpjmkaaLwBaM

/-
  'meets' by values; the summaries of the law of the ways that meet are right.
-/
/-
  The law of the ways that meet.
-/

namespace Go.Ex
open Go Go.Proofs
set_option maxRecDepth 100000
theorem lRunOk : lRun.all lawTrue = true := by kernel_rfl
end Go.Ex


namespace Go.Ex
open Go Go.Proofs Go.RowKit
noncomputable section
def mtP : Poly := pminus (pplus (ptimes (pminus (pvar 0) (pvar 3)) (pminus (pvar 0) (pvar 3))) (ptimes (pminus (pvar 1) (pvar 4)) (pminus (pvar 1) (pvar 4)))) (ptimes (pplus (pvar 2) (pvar 5)) (pplus (pvar 2) (pvar 5)))
def mtRun (e f : Int) : Tree (Sv × St) := callE (mC zZ) (drawX (mC zZ)) 3000 (FI.of Try.f10 true) [ballS 0, ballS 3, .one (.int .i64 (.lit e)), .one (.int .i64 (.lit f))] (stP argB)
def mtOk (r : Sv × St) : Bool := match r.1 with
  | .one (.bool (.at_ true (.pos p))) => polyEq p mtP
  | _ => false
theorem mtOk_iff {r : Sv × St} (h : mtOk r = true) : r.1 = .one (.bool (.at_ true (.pos mtP))) := by
  unfold mtOk at h
  split at h
  · rename_i p e
    rw [e, polyEq_iff h]
  · cases h
set_option maxRecDepth 100000
theorem m00 : (mtRun 0 0).all mtOk = true := by kernel_rfl
theorem m08 : (mtRun 0 8).all lawTrue = true := by kernel_rfl
theorem m09 : (mtRun 0 9).all lawTrue = true := by kernel_rfl
theorem m80 : (mtRun 8 0).all lawTrue = true := by kernel_rfl
theorem m88 : (mtRun 8 8).all lawTrue = true := by kernel_rfl
theorem m89 : (mtRun 8 9).all lawTrue = true := by kernel_rfl
theorem m90 : (mtRun 9 0).all lawTrue = true := by kernel_rfl
theorem m98 : (mtRun 9 8).all lawTrue = true := by kernel_rfl
theorem m99 : (mtRun 9 9).all lawTrue = true := by kernel_rfl
def Er (x : Int) : Prop := x = 0 ∨ x = 8 ∨ x = 9
theorem meets_any {a b c d e f x y : Int} (h1 : BIn a b c) (h2 : BIn d e f) (hx : Er x) (hy : Er y) (hm : x = 0 → y = 0 → nrm (a - d) (b - e) ≤ (c + f) * (c + f)) (w : World) :
    Calls Try.prog 10 #[ballV a b c, ballV d e f, .int .i64 x, .int .i64 y] w fun z w' => z = .returned (.bool true) ∧ Below w.heap.size w w' := by
  obtain ⟨η, h⟩ := six_env h1 h2 (D := []) rfl
  have hC : (mC zZ).Ok Try.prog η := mC_ok h.g (fun x hx => by cases hx) (fun x hx => by cases hx)
  have hargs : ∀ x y : Int, denArgs η E0 [ballS 0, ballS 3, .one (.int .i64 (.lit x)), .one (.int .i64 (.lit y))] = some [ballV a b c, ballV d e f, .int .i64 x, .int .i64 y] := fun x y => by
    have := args_six h h1 h2 E0
    simp only [denArgs] at this ⊢
    cases h3 : (ballS 0).den η E0 with
    | none => rw [h3] at this; cases this
    | some u =>
      cases h4 : (ballS 3).den η E0 with
      | none => rw [h3, h4] at this; cases this
      | some v =>
        rw [h3, h4] at this
        simp only [Option.some.injEq, List.cons.injEq, and_true] at this
        obtain ⟨rfl, rfl⟩ := this
        rfl
  have key : ∀ x y : Int, (mtRun x y).all lawTrue = true → Calls Try.prog 10 #[ballV a b c, ballV d e f, .int .i64 x, .int .i64 y] w fun z w' => z = .returned (.bool true) ∧ Below w.heap.size w w' := fun x y hr => by
    obtain ⟨r, hr, hrr⟩ := Tree.all_at (η := η) hr
    have hrr := svEq_iff hrr
    obtain ⟨v, e1, e2, e3⟩ := run_sumP hC Try.fok10 (argB_of h h1 h2) hr (by rw [hrr]; rfl) w (hargs x y)
    rw [hrr] at e1
    cases e1
    exact e3
  rcases hx with rfl | rfl | rfl
  · rcases hy with rfl | rfl | rfl
    · obtain ⟨r, hr, hrr⟩ := Tree.all_at (η := η) m00
      have hrr := mtOk_iff hrr
      obtain ⟨v, e1, e2, e3⟩ := run_sumP hC Try.fok10 (argB_of h h1 h2) hr (by rw [hrr]; rfl) w (hargs 0 0)
      rw [hrr] at e1
      have hp : (Atom.pos mtP).den η = false := by
        simp only [Atom.den, mtP, evP_pminus, evP_pplus, evP_ptimes, evP_pvar, h.v0, h.v1, h.v2, h.v3, h.v4, h.v5]
        have := hm rfl rfl
        unfold nrm at this
        exact decide_eq_false (by omega)
      simp only [Sv.den, Sc.den, Bx.den, hp, Option.some.injEq] at e1
      cases e1
      exact e3
    · exact key 0 8 m08
    · exact key 0 9 m09
  · rcases hy with rfl | rfl | rfl
    · exact key 8 0 m80
    · exact key 8 8 m88
    · exact key 8 9 m89
  · rcases hy with rfl | rfl | rfl
    · exact key 9 0 m90
    · exact key 9 8 m98
    · exact key 9 9 m99

theorem cpol_den {η : Env} {x : Fx} {p : Poly} (h : cpol x = some p) : x.den η = FloatKind.f64.nearest (wr (evP η.i p)) := by
  unfold cpol at h
  split at h
  · cases h; rfl
  · cases h
    show 0 = FloatKind.f64.nearest (wr 0)
    decide
  · cases h
theorem balP_den {η : Env} {E : Emb} {s : Sv} {ps : List Poly} (h : balP s = some ps) : ∃ p q r, ps = [p, q, r] ∧ s.den η E = some (ballV (wr (evP η.i p)) (wr (evP η.i q)) (wr (evP η.i r))) := by
  unfold balP at h
  split at h
  · rename_i x y r
    split at h
    · rename_i p q s hp hq hs
      cases h
      refine ⟨p, q, s, rfl, ?_⟩
      have e1 : (Sc.cpx .f64 x y).den η E = some (.complex .f64 (FloatKind.f64.nearest (wr (evP η.i p))) (FloatKind.f64.nearest (wr (evP η.i q)))) := by simp only [Sc.den, cpol_den hp, cpol_den hq]
      have e2 := polyOf_den (η := η) (E := E) hs
      simp only [Sv.den, denL, e1, e2, Option.map_some, ballV]
    · cases h
  · cases h
theorem is_ok {η : Env} {D : Dtab} (hD : DOk η D) {v k : Nat} {ps : List Poly} (h : gBall.is D v k ps = true) : η.i v = wr (semD k (wvals η ps)) := by
  unfold gBall.is at h
  split at h
  · rename_i k' qs hd
    simp only [Bool.and_eq_true] at h
    have := hD _ (dget_mem hd)
    rw [Nat.eq_of_beq_eq_true h.1, psEq_iff h.2] at this
    exact this
  · cases h
theorem gBall_ok {η : Env} (hg : GoodF η) {F : FuncId} {fi : FI} (hf : FI.Ok Try.prog F fi) {Z : Nm} (hD : DOk η Z.D) (hX : XOk' η Z.X) {k : Nat} {G : Int → Int → Int → Int → Int → Int → Nat → Int}
    (hs : ∀ a b c d e f j, j < 4 → semD (k + j) [a, b, c, d, e, f] = G a b c d e f j) (hw : ∀ a b c d e f, BIn (G a b c d e f 0) (G a b c d e f 1) (G a b c d e f 2) ∧ Er (G a b c d e f 3))
    (hc : ∀ {a b c d e f}, BIn a b c → BIn d e f → ∀ w, Calls Try.prog F #[ballV a b c, ballV d e f] w fun x w' => x = .returned (outV (G a b c d e f)) ∧ Below w.heap.size w w') : SumOk Try.prog η F (gBall k Z) := by
  intro svs pc r pc' h hpc
  unfold gBall at h
  split at h
  · rename_i x y
    split at h
    · rename_i ps qs hps hqs
      cases hb : bndC pc bndsB (ps ++ qs) with
      | false => rw [hb] at h; cases h
      | true =>
        rw [hb] at h
        simp only [cond_true] at h
        split at h
        · rename_i v hv
          cases hn : gBall.named4 Z.D v k (ps ++ qs) with
          | false => rw [hn] at h; cases h
          | true =>
            rw [hn] at h
            simp only [cond_true, Tree.at_, Option.some.injEq, Prod.mk.injEq] at h
            obtain ⟨rfl, rfl⟩ := h
            refine ⟨addXv_ok hg hpc hX, fun E args w ha => ?_⟩
            obtain ⟨p0, p1, p2, rfl, d1⟩ := balP_den (η := η) (E := E) hps
            obtain ⟨p3, p4, p5, rfl, d2⟩ := balP_den (η := η) (E := E) hqs
            simp only [denArgs, d1, d2, Option.some.injEq] at ha
            subst ha
            have hbl := bndC_ok hg hpc hb
            simp only [List.cons_append, List.nil_append, wvals, List.map_cons, List.map_nil, bndsB, bndL, maxB] at hbl
            have e0 := hD _ (dlook_mem hv)
            simp only [gBall.named4, Bool.and_eq_true] at hn
            have e1 := is_ok hD hn.1
            have e2 := is_ok hD hn.2.1
            have e3 := is_ok hD hn.2.2
            simp only [List.cons_append, List.nil_append, wvals, List.map_cons, List.map_nil] at e0 e1 e2 e3
            generalize wr (evP η.i p0) = a at *
            generalize wr (evP η.i p1) = b at *
            generalize wr (evP η.i p2) = c at *
            generalize wr (evP η.i p3) = d at *
            generalize wr (evP η.i p4) = e at *
            generalize wr (evP η.i p5) = f at *
            have s0 := hs a b c d e f 0 (by decide)
            rw [Nat.add_zero] at s0
            rw [s0] at e0
            rw [hs a b c d e f 1 (by decide)] at e1
            rw [hs a b c d e f 2 (by decide)] at e2
            rw [hs a b c d e f 3 (by decide)] at e3
            obtain ⟨⟨k0, k1, k2⟩, k3⟩ := hw a b c d e f
            rw [wr_mid (by omega)] at e0 e1 e2
            rw [wr_mid (by rcases k3 with k3 | k3 | k3 <;> omega)] at e3
            refine ⟨outV (G a b c d e f), ?_, gives_of hf (hc ⟨by omega, by omega, by omega⟩ ⟨by omega, by omega, by omega⟩ w)⟩
            simp only [nmS, Sv.den, denParts, denPart, denL, Sc.den, Fx.den, Ix.den, evP_pvar, e0, e1, e2, e3, Option.map_some, outV, ballV, wr_mid (x := G a b c d e f 0) (by omega), wr_mid (x := G a b c d e f 1) (by omega), wr_mid (x := G a b c d e f 2) (by omega),
              wr_mid (x := G a b c d e f 3) (by rcases k3 with k3 | k3 | k3 <;> omega)]
        · cases h
    · cases h
  · cases h
def MOk (η : Env) (M : MTab) : Prop := ∀ x ∈ M, PC.holds η x.2 → ∀ E args w, denArgs η E x.1 = some args → Gives Try.prog 10 args.toArray w (.bool true)
theorem gMeet_go {η : Env} (hg : GoodF η) {pc : PC} (hpc : pc.holds η) {svs : List Sv} {E : Emb} {args : List Value} {w : World} (ha : denArgs η E svs = some args) : ∀ {M : MTab}, MOk η M → gMeet.go M svs pc = true → Gives Try.prog 10 args.toArray w (.bool true)
  | [], _, h => by cases h
  | (pat, pre) :: M, hM, h => by
    simp only [gMeet.go, Bool.or_eq_true, Bool.and_eq_true] at h
    rcases h with h | h
    · rw [svsEq_iff h.1] at ha
      exact hM _ (List.mem_cons_self ..) (allKn_ok hg hpc h.2) E args w ha
    · exact gMeet_go hg hpc ha (fun x hx => hM x (List.mem_cons_of_mem _ hx)) h
theorem gMeet_ok {η : Env} (hg : GoodF η) {M : MTab} (hM : MOk η M) : SumOk Try.prog η 10 (gMeet M) := by
  intro svs pc r pc' h hpc
  unfold gMeet at h
  cases hc : gMeet.go M svs pc with
  | false => rw [hc] at h; cases h
  | true =>
    rw [hc] at h
    simp only [cond_true, Tree.at_, Option.some.injEq, Prod.mk.injEq] at h
    obtain ⟨rfl, rfl⟩ := h
    exact ⟨hpc, fun E args w ha => ⟨_, rfl, gMeet_go hg hpc ha hM hc⟩⟩
theorem timEr (a b c d e f : Int) : BIn (timB a b c d e f 0) (timB a b c d e f 1) (timB a b c d e f 2) ∧ Er (timB a b c d e f 3) := by
  obtain ⟨h1, h2⟩ := tim_in a b c d e f
  refine ⟨h1, ?_⟩
  rcases h2 with h2 | h2
  · exact .inl h2
  · exact .inr (.inl h2)
theorem kin_ok (k : Nat) (G : Int → Int → Int → Int → Int → Int → Nat → Int) (h0 : ∀ a b c d e f, semD k [a, b, c, d, e, f] = G a b c d e f 0) (h1 : ∀ a b c d e f, semD (k + 1) [a, b, c, d, e, f] = G a b c d e f 1) (h2 : ∀ a b c d e f, semD (k + 2) [a, b, c, d, e, f] = G a b c d e f 2) (h3 : ∀ a b c d e f, semD (k + 3) [a, b, c, d, e, f] = G a b c d e f 3) :
    ∀ a b c d e f j, j < 4 → semD (k + j) [a, b, c, d, e, f] = G a b c d e f j := by
  intro a b c d e f j hj
  match j, hj with
  | 0, _ => exact h0 ..
  | 1, _ => exact h1 ..
  | 2, _ => exact h2 ..
  | 3, _ => exact h3 ..
theorem tKin : ∀ a b c d e f j, j < 4 → semD (20 + j) [a, b, c, d, e, f] = timB a b c d e f j := kin_ok 20 timB (fun _ _ _ _ _ _ => rfl) (fun _ _ _ _ _ _ => rfl) (fun _ _ _ _ _ _ => rfl) (fun _ _ _ _ _ _ => rfl)
theorem qKin : ∀ a b c d e f j, j < 4 → semD (30 + j) [a, b, c, d, e, f] = quoB a b c d e f j := kin_ok 30 quoB (fun _ _ _ _ _ _ => rfl) (fun _ _ _ _ _ _ => rfl) (fun _ _ _ _ _ _ => rfl) (fun _ _ _ _ _ _ => rfl)
theorem balledOk {η : Env} (hg : GoodF η) : SumOk Try.prog η 5 (gLit [] (.one (.bool (.lit true)))) := lit_sum (C := mC zZ) (n := 3000) (mC_ok hg (fun x hx => by cases hx) (fun x hx => by cases hx)) Try.fok5 (by kernel_rfl) (by kernel_rfl)
theorem smL_ok {η : Env} (hg : GoodF η) {Z : Nm} (hD : DOk η Z.D) (hX : XOk' η Z.X) {M : MTab} (hM : MOk η M) : SumsOk Try.prog η (smL Z M) :=
  ((((smA_ok hg).set (by decide) (balledOk hg)).set (by decide) (gBall_ok hg Try.fok9 hD hX tKin timEr times_any)).set (by decide) (gBall_ok hg Try.fok11 hD hX qKin quoB_in quot_ball)).set (by decide) (gMeet_ok hg hM)
end
end Go.Ex


namespace Go.Ex
open Go Go.Proofs Go.RowKit
theorem mem100 : ∀ x ∈ nm4 100 20 (sP ++ dP), x ∈ lD := fun _ hx => List.mem_append_left _ hx
theorem mem104 : ∀ x ∈ nm4 104 20 (b3 0 ++ b3 0), x ∈ lD := fun _ hx => List.mem_append_right _ (List.mem_append_left _ hx)
theorem mem108 : ∀ x ∈ nm4 108 20 (b3 3 ++ b3 3), x ∈ lD := fun _ hx => List.mem_append_right _ (List.mem_append_right _ (List.mem_append_left _ hx))
theorem mem112 : ∀ x ∈ nm4 112 20 (sP ++ b3 6), x ∈ lD := fun _ hx => List.mem_append_right _ (List.mem_append_right _ (List.mem_append_right _ (List.mem_append_left _ hx)))
theorem mem116 : ∀ x ∈ nm4 116 20 (b3 0 ++ b3 6), x ∈ lD := fun _ hx => List.mem_append_right _ (List.mem_append_right _ (List.mem_append_right _ (List.mem_append_right _ (List.mem_append_left _ hx))))
theorem mem120 : ∀ x ∈ nm4 120 20 (b3 3 ++ b3 6), x ∈ lD := fun _ hx => List.mem_append_right _ (List.mem_append_right _ (List.mem_append_right _ (List.mem_append_right _ (List.mem_append_right _ (List.mem_append_left _ hx)))))
theorem mem124 : ∀ x ∈ nm4 124 20 (b3 0 ++ b3 3), x ∈ lD := fun _ hx => List.mem_append_right _ (List.mem_append_right _ (List.mem_append_right _ (List.mem_append_right _ (List.mem_append_right _ (List.mem_append_right _ (List.mem_append_left _ hx))))))
theorem mem128 : ∀ x ∈ nm4 128 20 (b3 124 ++ b3 6), x ∈ lD := fun _ hx => List.mem_append_right _ (List.mem_append_right _ (List.mem_append_right _ (List.mem_append_right _ (List.mem_append_right _ (List.mem_append_right _ (List.mem_append_right _ (List.mem_append_left _ hx)))))))
theorem mem132 : ∀ x ∈ nm4 132 20 (b3 0 ++ b3 120), x ∈ lD := fun _ hx => List.mem_append_right _ (List.mem_append_right _ (List.mem_append_right _ (List.mem_append_right _ (List.mem_append_right _ (List.mem_append_right _ (List.mem_append_right _ (List.mem_append_right _ (List.mem_append_left _ hx))))))))
theorem mem136 : ∀ x ∈ nm4 136 30 (b3 0 ++ b3 3), x ∈ lD := fun _ hx => List.mem_append_right _ (List.mem_append_right _ (List.mem_append_right _ (List.mem_append_right _ (List.mem_append_right _ (List.mem_append_right _ (List.mem_append_right _ (List.mem_append_right _ (List.mem_append_right _ (List.mem_append_left _ hx)))))))))
theorem mem140 : ∀ x ∈ nm4 140 30 (b3 0 ++ b3 120), x ∈ lD := fun _ hx => List.mem_append_right _ (List.mem_append_right _ (List.mem_append_right _ (List.mem_append_right _ (List.mem_append_right _ (List.mem_append_right _ (List.mem_append_right _ (List.mem_append_right _ (List.mem_append_right _ (List.mem_append_right _ (List.mem_append_left _ hx))))))))))
theorem mem144 : ∀ x ∈ nm4 144 30 (b3 136 ++ b3 6), x ∈ lD := fun _ hx => List.mem_append_right _ (List.mem_append_right _ (List.mem_append_right _ (List.mem_append_right _ (List.mem_append_right _ (List.mem_append_right _ (List.mem_append_right _ (List.mem_append_right _ (List.mem_append_right _ (List.mem_append_right _ (List.mem_append_right _ (List.mem_append_left _ hx)))))))))))
theorem mem148 : ∀ x ∈ nm4 148 20 (gP 0 ++ gP 3), x ∈ lD := fun _ hx => List.mem_append_right _ (List.mem_append_right _ (List.mem_append_right _ (List.mem_append_right _ (List.mem_append_right _ (List.mem_append_right _ (List.mem_append_right _ (List.mem_append_right _ (List.mem_append_right _ (List.mem_append_right _ (List.mem_append_right _ (List.mem_append_right _ (hx))))))))))))
theorem val4 {η : Env} (hD : DOk η lD) {v k : Nat} {ps : List Poly} {a b c d e f : Int} {G : Int → Int → Int → Int → Int → Int → Nat → Int} (hm : ∀ x ∈ nm4 v k ps, x ∈ lD)
    (hs : ∀ a b c d e f j, j < 4 → semD (k + j) [a, b, c, d, e, f] = G a b c d e f j) (hw : ∀ a b c d e f, BIn (G a b c d e f 0) (G a b c d e f 1) (G a b c d e f 2) ∧ Er (G a b c d e f 3))
    (hps : wvals η ps = [a, b, c, d, e, f]) : η.i v = G a b c d e f 0 ∧ η.i (v + 1) = G a b c d e f 1 ∧ η.i (v + 2) = G a b c d e f 2 ∧ η.i (v + 3) = G a b c d e f 3 := by
  have e0 := hD _ (hm (v, k, ps) (by simp only [nm4, List.mem_cons, true_or]))
  have e1 := hD _ (hm (v + 1, k + 1, ps) (by simp only [nm4, List.mem_cons, true_or, or_true]))
  have e2 := hD _ (hm (v + 2, k + 2, ps) (by simp only [nm4, List.mem_cons, true_or, or_true]))
  have e3 := hD _ (hm (v + 3, k + 3, ps) (by simp only [nm4, List.mem_cons, true_or, or_true]))
  simp only [hps] at e0 e1 e2 e3
  have s0 := hs a b c d e f 0 (by decide)
  rw [Nat.add_zero] at s0
  rw [s0] at e0
  rw [hs a b c d e f 1 (by decide)] at e1
  rw [hs a b c d e f 2 (by decide)] at e2
  rw [hs a b c d e f 3 (by decide)] at e3
  obtain ⟨⟨k0, k1, k2⟩, k3⟩ := hw a b c d e f
  rw [wr_mid (by omega)] at e0 e1 e2
  rw [wr_mid (by rcases k3 with k3 | k3 | k3 <;> omega)] at e3
  exact ⟨e0, e1, e2, e3⟩
theorem upTo_to {η : Env} {v : Nat} {lo hi : Int} (h : PC.holds η (upTo v lo hi)) : lo ≤ η.i v ∧ η.i v ≤ hi := by
  have h1 := h _ (List.mem_cons_self ..)
  have h2 := h _ (List.mem_cons_of_mem _ (List.mem_cons_self ..))
  simp only [Atom.den, evP_pminus, evP_pvar, evP_pconst] at h1 h2
  have h1 := of_decide_eq_false h1
  have h2 := of_decide_eq_false h2
  omega
theorem holds_l {η : Env} {p q : PC} (h : PC.holds η (p ++ q)) : PC.holds η p := fun x hx => h x (List.mem_append_left _ hx)
theorem holds_r {η : Env} {p q : PC} (h : PC.holds η (p ++ q)) : PC.holds η q := fun x hx => h x (List.mem_append_right _ hx)
theorem smB4_to {η : Env} {v : Nat} (h : PC.holds η (smB4 v)) : SIn (η.i v) (η.i (v + 1)) (η.i (v + 2)) :=
  ⟨upTo_to (holds_l h), upTo_to (holds_l (holds_r h)), upTo_to (holds_r (holds_r h))⟩
theorem lIn_to {η : Env} (h : PC.holds η lIn) : SIn (η.i 0) (η.i 1) (η.i 2) ∧ SIn (η.i 3) (η.i 4) (η.i 5) ∧ SIn (η.i 6) (η.i 7) (η.i 8) := ⟨smB4_to (holds_l h), smB4_to (holds_l (holds_r h)), smB4_to (holds_r (holds_r h))⟩
theorem wv6 {η : Env} {p q r s t u : Poly} {a b c d e f : Int} (h0 : wr (evP η.i p) = a) (h1 : wr (evP η.i q) = b) (h2 : wr (evP η.i r) = c) (h3 : wr (evP η.i s) = d) (h4 : wr (evP η.i t) = e) (h5 : wr (evP η.i u) = f) : wvals η ([p, q, r] ++ [s, t, u]) = [a, b, c, d, e, f] := by
  simp only [List.cons_append, List.nil_append, wvals, List.map_cons, List.map_nil, h0, h1, h2, h3, h4, h5]
theorem ev_var {η : Env} {v : Nat} {x : Int} (h : η.i v = x) (hx : -9223372036854775807 ≤ x ∧ x ≤ 9223372036854775807) : wr (evP η.i (pvar v)) = x := by rw [evP_pvar, h]; exact wr_mid hx
theorem ev_var' {η : Env} (hg : GoodF η) (v : Nat) : wr (evP η.i (pvar v)) = η.i v := by rw [evP_pvar, hg.inr]
abbrev Q4 (η : Env) (v : Nat) (G : Nat → Int) : Prop := η.i v = G 0 ∧ η.i (v + 1) = G 1 ∧ η.i (v + 2) = G 2 ∧ η.i (v + 3) = G 3
/-- The values of the names, by those of the three balls. -/
structure LV (η : Env) (a b c d e f g h r : Int) : Prop where
  p : Q4 η 100 (timB (a + d) (b + e) (c + f) (a - d) (b - e) (c + f))
  aa : Q4 η 104 (timB a b c a b c)
  bb : Q4 η 108 (timB d e f d e f)
  t : Q4 η 112 (timB (a + d) (b + e) (c + f) g h r)
  ac : Q4 η 116 (timB a b c g h r)
  bc : Q4 η 120 (timB d e f g h r)
  ab : Q4 η 124 (timB a b c d e f)
  v : Q4 η 128 (timB (timB a b c d e f 0) (timB a b c d e f 1) (timB a b c d e f 2) g h r)
  w : Q4 η 132 (timB a b c (timB d e f g h r 0) (timB d e f g h r 1) (timB d e f g h r 2))
  y : Q4 η 136 (quoB a b c d e f)
  z : Q4 η 140 (quoB a b c (timB d e f g h r 0) (timB d e f g h r 1) (timB d e f g h r 2))
  q : Q4 η 144 (quoB (quoB a b c d e f 0) (quoB a b c d e f 1) (quoB a b c d e f 2) g h r)
  n : Q4 η 148 (timB a (-b) c d (-e) f)
theorem lv_of {η : Env} (hg : GoodF η) (hD : DOk η lD) (hI : PC.holds η lIn) : LV η (η.i 0) (η.i 1) (η.i 2) (η.i 3) (η.i 4) (η.i 5) (η.i 6) (η.i 7) (η.i 8) := by
  obtain ⟨h1, h2, h3⟩ := lIn_to hI
  obtain ⟨a0, a1, a2⟩ := h1
  obtain ⟨b0, b1, b2⟩ := h2
  obtain ⟨c0, c1, c2⟩ := h3
  have iv := ev_var' hg
  have s0 : wr (evP η.i (pplus (pvar 0) (pvar 3))) = η.i 0 + η.i 3 := by rw [evP_pplus, evP_pvar, evP_pvar]; exact wr_mid (by omega)
  have s1 : wr (evP η.i (pplus (pvar 1) (pvar 4))) = η.i 1 + η.i 4 := by rw [evP_pplus, evP_pvar, evP_pvar]; exact wr_mid (by omega)
  have s2 : wr (evP η.i (pplus (pvar 2) (pvar 5))) = η.i 2 + η.i 5 := by rw [evP_pplus, evP_pvar, evP_pvar]; exact wr_mid (by omega)
  have d0 : wr (evP η.i (pminus (pvar 0) (pvar 3))) = η.i 0 - η.i 3 := by rw [evP_pminus, evP_pvar, evP_pvar]; exact wr_mid (by omega)
  have d1 : wr (evP η.i (pminus (pvar 1) (pvar 4))) = η.i 1 - η.i 4 := by rw [evP_pminus, evP_pvar, evP_pvar]; exact wr_mid (by omega)
  have n1 : wr (evP η.i (pneg (pvar 1))) = -η.i 1 := by rw [evP_pneg, evP_pvar]; exact wr_mid (by omega)
  have n4 : wr (evP η.i (pneg (pvar 4))) = -η.i 4 := by rw [evP_pneg, evP_pvar]; exact wr_mid (by omega)
  have kbc := val4 hD mem120 tKin timEr (wv6 (iv 3) (iv 4) (iv 5) (iv 6) (iv 7) (iv 8))
  have kab := val4 hD mem124 tKin timEr (wv6 (iv 0) (iv 1) (iv 2) (iv 3) (iv 4) (iv 5))
  have ky := val4 hD mem136 qKin quoB_in (wv6 (iv 0) (iv 1) (iv 2) (iv 3) (iv 4) (iv 5))
  exact
  { p := val4 hD mem100 tKin timEr (wv6 s0 s1 s2 d0 d1 s2)
    aa := val4 hD mem104 tKin timEr (wv6 (iv 0) (iv 1) (iv 2) (iv 0) (iv 1) (iv 2))
    bb := val4 hD mem108 tKin timEr (wv6 (iv 3) (iv 4) (iv 5) (iv 3) (iv 4) (iv 5))
    t := val4 hD mem112 tKin timEr (wv6 s0 s1 s2 (iv 6) (iv 7) (iv 8))
    ac := val4 hD mem116 tKin timEr (wv6 (iv 0) (iv 1) (iv 2) (iv 6) (iv 7) (iv 8))
    bc := kbc
    ab := kab
    v := val4 hD mem128 tKin timEr (wv6 ((iv 124).trans kab.1) ((iv 125).trans kab.2.1) ((iv 126).trans kab.2.2.1) (iv 6) (iv 7) (iv 8))
    w := val4 hD mem132 tKin timEr (wv6 (iv 0) (iv 1) (iv 2) ((iv 120).trans kbc.1) ((iv 121).trans kbc.2.1) ((iv 122).trans kbc.2.2.1))
    y := ky
    z := val4 hD mem140 qKin quoB_in (wv6 (iv 0) (iv 1) (iv 2) ((iv 120).trans kbc.1) ((iv 121).trans kbc.2.1) ((iv 122).trans kbc.2.2.1))
    q := val4 hD mem144 qKin quoB_in (wv6 ((iv 136).trans ky.1) ((iv 137).trans ky.2.1) ((iv 138).trans ky.2.2.1) (iv 6) (iv 7) (iv 8))
    n := val4 hD mem148 tKin timEr (wv6 (iv 0) n1 (iv 2) (iv 3) n4 (iv 5)) }
theorem okX_of {η : Env} {v : Nat} {G : Nat → Int} (h : Q4 η v G) (hG : G 3 = 0 ∧ (-33554432 ≤ G 0 ∧ G 0 ≤ 33554432) ∧ (-33554432 ≤ G 1 ∧ G 1 ≤ 33554432) ∧ 0 ≤ G 2 ∧ G 2 ≤ 33554432) : PC.holds η (okX v) := by
  obtain ⟨e0, e1, e2, e3⟩ := h
  refine holds_cs ?_ (holds_ap (upTo_of ?_) (holds_ap (upTo_of ?_) (upTo_of ?_)))
  · simp only [Atom.den, evP_pvar, e3]
    exact decide_eq_true hG.1
  · rw [e0]; exact hG.2.1
  · rw [e1]; exact hG.2.2.1
  · rw [e2]; exact hG.2.2.2
theorem lX_ok {η : Env} (hg : GoodF η) (hD : DOk η lD) : XOk' η lX := by
  intro x hx hp
  simp only [lX, List.mem_cons, List.not_mem_nil, or_false] at hx
  rcases hx with rfl | rfl | rfl | rfl | rfl | rfl
  · obtain ⟨h1, h2, h3⟩ := lIn_to hp
    exact okX_of (lv_of hg hD hp).aa (tim_small h1 h1)
  · obtain ⟨h1, h2, h3⟩ := lIn_to hp
    exact okX_of (lv_of hg hD hp).bb (tim_small h2 h2)
  · obtain ⟨h1, h2, h3⟩ := lIn_to hp
    exact okX_of (lv_of hg hD hp).ac (tim_small h1 h3)
  · obtain ⟨h1, h2, h3⟩ := lIn_to hp
    exact okX_of (lv_of hg hD hp).bc (tim_small h2 h3)
  · obtain ⟨h1, h2, h3⟩ := lIn_to hp
    exact okX_of (lv_of hg hD hp).ab (tim_small h1 h2)
  · have iv := ev_var' hg
    obtain ⟨e0, e1, e2, e3⟩ := val4 hD mem136 qKin quoB_in (wv6 (iv 0) (iv 1) (iv 2) (iv 3) (iv 4) (iv 5))
    obtain ⟨⟨k0, k1, k2⟩, _⟩ := quoB_in (η.i 0) (η.i 1) (η.i 2) (η.i 3) (η.i 4) (η.i 5)
    exact holds_ap (upTo_of (by rw [e0]; exact k0)) (holds_ap (upTo_of (by rw [e1]; exact k1)) (upTo_of (by rw [e2]; exact k2)))
theorem meet_of {η : Env} {p0 p1 p2 q0 q1 q2 : Poly} {u v : Ix} {a b c d e f x y : Int} (h0 : wr (evP η.i p0) = a) (h1 : wr (evP η.i p1) = b) (h2 : wr (evP η.i p2) = c) (h3 : wr (evP η.i q0) = d) (h4 : wr (evP η.i q1) = e) (h5 : wr (evP η.i q2) = f)
    (h6 : u.den η = x) (h7 : v.den η = y) (k1 : BIn a b c) (k2 : BIn d e f) (hx : Er x) (hy : Er y) (hm : x = 0 → y = 0 → nrm (a - d) (b - e) ≤ (c + f) * (c + f)) :
    ∀ E args w, denArgs η E [balS [p0, p1, p2], balS [q0, q1, q2], .one (.int .i64 u), .one (.int .i64 v)] = some args → Gives Try.prog 10 args.toArray w (.bool true) := by
  intro E args w h
  have hi : ∀ p : Poly, (Ix.poly p).den η = wr (evP η.i p) := fun _ => rfl
  simp only [balS, denArgs, Sv.den, denL, Sc.den, Fx.den, hi, h0, h1, h2, h3, h4, h5, h6, h7, Option.map_some, Option.some.injEq] at h
  subst h
  exact gives_of Try.fok10 (meets_any k1 k2 hx hy hm w)
theorem ev_q {η : Env} {v : Nat} {x : Int} (h : η.i v = x) (hg : GoodF η) : wr (evP η.i (pvar v)) = x := by rw [ev_var' hg]; exact h
theorem er0 : Er 0 := .inl rfl
theorem lM_ok {η : Env} (hg : GoodF η) (hD : DOk η lD) : MOk η lM := by
  intro x hx hp
  simp only [lM, List.mem_cons, List.not_mem_nil, or_false] at hx
  rcases hx with rfl | rfl | rfl | rfl | rfl
  · obtain ⟨ha, hb, hc⟩ := lIn_to hp
    have L := lv_of hg hD hp
    obtain ⟨_, ⟨a1, a2⟩, ⟨a3, a4⟩, a5, a6⟩ := tim_small ha ha
    obtain ⟨_, ⟨b1, b2⟩, ⟨b3, b4⟩, b5, b6⟩ := tim_small hb hb
    refine meet_of (ev_q L.p.1 hg) (ev_q L.p.2.1 hg) (ev_q L.p.2.2.1 hg) (d := timB (η.i 0) (η.i 1) (η.i 2) (η.i 0) (η.i 1) (η.i 2) 0 - timB (η.i 3) (η.i 4) (η.i 5) (η.i 3) (η.i 4) (η.i 5) 0) (e := timB (η.i 0) (η.i 1) (η.i 2) (η.i 0) (η.i 1) (η.i 2) 1 - timB (η.i 3) (η.i 4) (η.i 5) (η.i 3) (η.i 4) (η.i 5) 1) (f := timB (η.i 0) (η.i 1) (η.i 2) (η.i 0) (η.i 1) (η.i 2) 2 + timB (η.i 3) (η.i 4) (η.i 5) (η.i 3) (η.i 4) (η.i 5) 2)
      ?_ ?_ ?_ (ev_q L.p.2.2.2 hg) rfl (timEr ..).1 ⟨by omega, by omega, by omega⟩ (timEr ..).2 er0 (fun h _ => meet1 ha hb h)
    · rw [evP_pminus, evP_pvar, evP_pvar, L.aa.1, L.bb.1]; exact wr_mid (by omega)
    · rw [evP_pminus, evP_pvar, evP_pvar, L.aa.2.1, L.bb.2.1]; exact wr_mid (by omega)
    · rw [evP_pplus, evP_pvar, evP_pvar, L.aa.2.2.1, L.bb.2.2.1]; exact wr_mid (by omega)
  · obtain ⟨ha, hb, hc⟩ := lIn_to hp
    have L := lv_of hg hD hp
    obtain ⟨_, ⟨a1, a2⟩, ⟨a3, a4⟩, a5, a6⟩ := tim_small ha hc
    obtain ⟨_, ⟨b1, b2⟩, ⟨b3, b4⟩, b5, b6⟩ := tim_small hb hc
    refine meet_of (ev_q L.t.1 hg) (ev_q L.t.2.1 hg) (ev_q L.t.2.2.1 hg) (d := timB (η.i 0) (η.i 1) (η.i 2) (η.i 6) (η.i 7) (η.i 8) 0 + timB (η.i 3) (η.i 4) (η.i 5) (η.i 6) (η.i 7) (η.i 8) 0) (e := timB (η.i 0) (η.i 1) (η.i 2) (η.i 6) (η.i 7) (η.i 8) 1 + timB (η.i 3) (η.i 4) (η.i 5) (η.i 6) (η.i 7) (η.i 8) 1) (f := timB (η.i 0) (η.i 1) (η.i 2) (η.i 6) (η.i 7) (η.i 8) 2 + timB (η.i 3) (η.i 4) (η.i 5) (η.i 6) (η.i 7) (η.i 8) 2)
      ?_ ?_ ?_ (ev_q L.t.2.2.2 hg) rfl (timEr ..).1 ⟨by omega, by omega, by omega⟩ (timEr ..).2 er0 (fun h _ => meet2 ha hb hc h)
    · rw [evP_pplus, evP_pvar, evP_pvar, L.ac.1, L.bc.1]; exact wr_mid (by omega)
    · rw [evP_pplus, evP_pvar, evP_pvar, L.ac.2.1, L.bc.2.1]; exact wr_mid (by omega)
    · rw [evP_pplus, evP_pvar, evP_pvar, L.ac.2.2.1, L.bc.2.2.1]; exact wr_mid (by omega)
  · obtain ⟨ha, hb, hc⟩ := lIn_to hp
    have L := lv_of hg hD hp
    exact meet_of (ev_q L.v.1 hg) (ev_q L.v.2.1 hg) (ev_q L.v.2.2.1 hg) (ev_q L.w.1 hg) (ev_q L.w.2.1 hg) (ev_q L.w.2.2.1 hg) (ev_q L.v.2.2.2 hg) (ev_q L.w.2.2.2 hg) (timEr ..).1 (timEr ..).1 (timEr ..).2 (timEr ..).2 (fun h h' => meet3 ha hb hc h h')
  · have hz := hp _ (List.mem_cons_self ..)
    have hp : PC.holds η lIn := fun x hx => hp x (List.mem_cons_of_mem _ hx)
    obtain ⟨ha, hb, hc⟩ := lIn_to hp
    have L := lv_of hg hD hp
    simp only [Atom.den, evP_pvar] at hz
    have hz := of_decide_eq_true hz
    have h0 := L.y.2.2.2.symm.trans hz
    exact meet_of (ev_q L.q.1 hg) (ev_q L.q.2.1 hg) (ev_q L.q.2.2.1 hg) (ev_q L.z.1 hg) (ev_q L.z.2.1 hg) (ev_q L.z.2.2.1 hg) (ev_q L.q.2.2.2 hg) (ev_q L.z.2.2.2 hg) (quoB_in ..).1 (quoB_in ..).1 (quoB_in ..).2 (quoB_in ..).2 (fun h h' => meet4 ha hb hc h0 h h')
  · obtain ⟨ha, hb, hc⟩ := lIn_to hp
    have L := lv_of hg hD hp
    obtain ⟨_, ⟨a1, a2⟩, ⟨a3, a4⟩, a5, a6⟩ := tim_small ha hb
    refine meet_of (ev_q L.ab.1 hg) (b := -timB (η.i 0) (η.i 1) (η.i 2) (η.i 3) (η.i 4) (η.i 5) 1) ?_ (ev_q L.ab.2.2.1 hg) (ev_q L.n.1 hg) (ev_q L.n.2.1 hg) (ev_q L.n.2.2.1 hg) rfl (ev_q L.n.2.2.2 hg) ⟨by omega, by omega, by omega⟩ (timEr ..).1 er0 (timEr ..).2 (fun _ h => meet5 ha hb h)
    rw [evP_pneg, evP_pvar, L.ab.2.1]; exact wr_mid (by omega)
theorem law3_any {cs : List Value} (hl : LeafsOk [.i, .i, .i, .i, .i, .i, .i, .i, .i] cs) (W : World) : Calls Try.prog 3 #[.agg cs.toArray] W fun e w' => e = .returned (.bool true) ∧ Below W.heap.size W w' := by
  have hA : ArgsOk sh9 [(true, cs)] := ⟨rfl, hl, (fun h => by cases h), trivial⟩
  have hlen : (intsOf (cellsV [(true, cs)])).length = 9 := args_len hA
  obtain ⟨iv, hiv⟩ : ∃ iv : Nat → Int, iv = dEnv [(true, cs)] uuB (fun _ => 0) lD := ⟨_, rfl⟩
  have hD := dEnv_ok (l := [(true, cs)]) (uu := uuB) (N := 9) (by omega) (fun _ => 0) (lo := 100) (by omega) (show dtabOk 100 lD = true by kernel_rfl)
  rw [← hiv] at hD
  have hg := lawEnv_good hA iv uuB
  have hC : (lC lZ lM).Ok Try.prog (lawEnv [(true, cs)] iv uuB) := mkC_ok hg (smL_ok hg (Z := lZ) hD (lX_ok hg hD) (lM_ok hg hD))
  obtain ⟨x, hx, hxr⟩ := Tree.all_at (η := lawEnv [(true, cs)] iv uuB) lRunOk
  have hxr := svEq_iff hxr
  obtain ⟨v, e1, _, e3⟩ := run_sumP hC Try.fok3 (fun _ h => by cases h) hx (by rw [hxr]; rfl) W (lawEnv_den hA (by omega) iv uuB)
  rw [hxr] at e1
  cases e1
  exact e3
end Go.Ex


