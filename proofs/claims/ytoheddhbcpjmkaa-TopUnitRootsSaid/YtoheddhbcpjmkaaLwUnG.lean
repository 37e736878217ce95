/-
  The root of a ball, by values.
-/
import Derived.Test.YtoheddhbcpjmkaaLwUnE
import Derived.Lib.Hide

namespace Go.Ex
open Go Go.Proofs Go.RowKit
noncomputable section
def sgP (b : Bool) (v : Nat) : Poly := bif b then pvar v else pneg (pvar v)
def rtSg (b : Bool) : PC := bif b then [(.pos (pneg (pvar 0)), false)] else [(.pos (pneg (pvar 0)), true), (.pos (pminus (pvar 1) (pvar 2)), true), (.pos (pminus (pneg (pvar 1)) (pvar 2)), false), (.pos (pneg (pvar 1)), false)]
def rtRest : PC := fitP (pvar 5) ++ ((.pos (pminus (pplus (pplus (pvar 8) (pconst 3)) (pvar 9)) (pconst 67108864)), false) :: (bndB 0 ++ (upTo 3 0 134217728 ++ (upTo 4 1 67108864 ++ (upTo 5 (-2147483648) 2147483648 ++ (upTo 7 1 268435456 ++ (upTo 8 0 67108864 ++ upTo 9 0 67108864)))))))
def rtPc (b : Bool) : PC := (.pos (pminus (pvar 3) (pvar 2)), true) :: (rtSg b ++ rtRest)
def rt51 (b : Bool) : CTab := [([iS (nP 0 1)], [], iS (pvar 3)), ([iS (ptimes (pplus (pvar 3) (sgP b 0)) (pconst 524288))], [], iS (pvar 4)), ([iS (ptimes (pvar 3) (pconst 1048576))], [], iS (pvar 7))]
def rt37 : CTab := [([iS (pvar 1), lS 1048576, iS (ptimes (pconst 2) (pvar 4))], [], rnS 5 6)]
def rt31 : CTab := [([iS (ptimes (pvar 2) (pconst 1048576)), iS (pvar 7)], [], iS (pvar 8)), ([lS 1048576, iS (pvar 4)], [], iS (pvar 9))]
def rt52a : CTab := [([iS (pvar 0)], [], iS (pvar 0))]
def rt52b : CTab := [([iS (pvar 0)], [], iS (pneg (pvar 0))), ([iS (pvar 1)], [], iS (pvar 1))]
def rt52 (b : Bool) : CTab := bif b then rt52a else rt52b
def smR (b : Bool) : T (List Sv → PC → Tree (Sv × PC)) := (((smA.set 51 (some (gTab (rt51 b)))).set 37 (some (gTab rt37))).set 31 (some (gTab rt31))).set 52 (some (gTab (rt52 b)))
def rtRun (b : Bool) : Tree (Sv × St) := callE (mkC (smR b)) (drawX (mkC (smR b))) 3000 (FI.of Try.f19 true) [ballS 0] (stP (rtPc b))
def rtS (b : Bool) : Sv := .tup [(true, [bif b then .cpx .f64 (.ofI (pvar 4)) (.ofI (pvar 5)) else .cpx .f64 (.ofI (pvar 5)) (.ofI (pvar 4)), .int .i64 (.poly (pplus (pplus (pvar 8) (pconst 3)) (pvar 9)))]), (false, [.int .i64 (.lit 0)])]
def rtOk (b : Bool) (r : Sv × St) : Bool := svEq r.1 (rtS b)
set_option maxRecDepth 100000
theorem rtRunT : (rtRun true).all (rtOk true) = true := by kernel_rfl
theorem rtRunF : (rtRun false).all (rtOk false) = true := by kernel_rfl
theorem gives_two'' {η : Env} {E : Emb} {p : Poly} {args : List Value} {n c : Int} (h : denArgs η E [lS c, iS p] = some args) (hn : wr (evP η.i p) = n) : args = [.int .i64 c, .int .i64 n] := by
  have h : some [Value.int .i64 c, .int .i64 (wr (evP η.i p))] = some args := h
  rw [hn] at h
  cases h; rfl
theorem gives_three {η : Env} {E : Emb} {p q : Poly} {args : List Value} {n c d : Int} (h : denArgs η E [iS p, lS c, iS q] = some args) (hn : wr (evP η.i p) = n) (hd : wr (evP η.i q) = d) : args = [.int .i64 n, .int .i64 c, .int .i64 d] := by
  have h : some [Value.int .i64 (wr (evP η.i p)), .int .i64 c, .int .i64 (wr (evP η.i q))] = some args := h
  rw [hn, hd] at h
  cases h; rfl
theorem ceil_nn {n d : Int} (hn : 0 ≤ n) (hd : 0 < d) : 0 ≤ ceilI n d := by
  unfold ceilI
  rcases (by omega : n = 0 ∨ -n < 0) with rfl | h
  · rw [show -(0 : Int) = 0 from rfl, Int.zero_ediv]; decide
  · have := Int.ediv_neg_of_neg_of_pos h hd; omega
theorem ltI_ff {a b : Int} : ltI a b = false ↔ b ≤ a := by
  rw [ltI_eq]
  constructor
  · intro h; have := of_decide_eq_false h; omega
  · intro h; exact decide_eq_false (by omega)
theorem rootF_some {t u : Tri} (h : rootF t = some u) : t.2.2 < isq (nrm t.1 t.2.1) ∧ (0 ≤ t.1 ∨ (0 ≤ t.2.1 ∧ t.2.2 < t.2.1)) ∧ ((t.1 < 0 ∧ u = (rootO t, rootW t, rootR t)) ∨ (0 ≤ t.1 ∧ u = (rootW t, rootO t, rootR t))) ∧ TIn u := by
  unfold rootF at h
  cases hc : (ltI t.2.2 (isq (nrm t.1 t.2.1)) && (leI 0 t.1 || (leI 0 t.2.1 && ltI t.2.2 t.2.1))) with
  | false => rw [hc] at h; cases h
  | true =>
    rw [hc, cond_true] at h
    simp only [Bool.and_eq_true, Bool.or_eq_true, ltI_iff, leI_iff] at hc
    refine ⟨hc.1, hc.2, ?_⟩
    cases hz : ltI t.1 0 with
    | true =>
      rw [hz, cond_true] at h
      obtain ⟨e, hi⟩ := fitT_some h
      rw [← e]
      exact ⟨.inl ⟨ltI_iff.1 hz, rfl⟩, hi⟩
    | false =>
      rw [hz, cond_false] at h
      obtain ⟨e, hi⟩ := fitT_some h
      rw [← e]
      exact ⟨.inr ⟨ltI_ff.1 hz, rfl⟩, hi⟩
set_option maxHeartbeats 2000000 in
theorem root_at {t u : Tri} (ht : TIn t) (h : rootF t = some u) (w : World) : Calls Try.prog 19 #[balT t] w fun e w' => e = .returned (outT u) ∧ Below w.heap.size w w' := by
  obtain ⟨t1, t2, t3⟩ := id ht
  obtain ⟨hm, hs, hor, hin⟩ := rootF_some h
  clear h
  have hb := nrm_bnd t1 t2
  obtain ⟨m0, m1, _, _⟩ := isq_big hb
  obtain ⟨m, hmE⟩ : ∃ m, m = isq (nrm t.1 t.2.1) := ⟨_, rfl⟩
  obtain ⟨W, hW⟩ : ∃ W, W = rootW t := ⟨_, rfl⟩
  obtain ⟨O, hO⟩ : ∃ O, O = rootO t := ⟨_, rfl⟩
  obtain ⟨S, hS⟩ : ∃ S, S = isq (m * 1048576) := ⟨_, rfl⟩
  obtain ⟨c1, hc1⟩ : ∃ c, c = ceilI (t.2.2 * 1048576) S := ⟨_, rfl⟩
  obtain ⟨c2, hc2⟩ : ∃ c, c = ceilI 1048576 W := ⟨_, rfl⟩
  have hR : rootR t = c1 + 3 + c2 := by rw [hc1, hc2, hS, hW, hmE]; rfl
  rw [← hmE] at m0 m1 hm
  have nb : (t.1.natAbs : Int) ≤ 67108864 := by omega
  have w0 : 1 ≤ (m + t.1.natAbs) * 524288 ∧ (m + t.1.natAbs) * 524288 ≤ 9007199254740992 := by omega
  have w1 : 1 ≤ W := by rw [hW, rootW, ← hmE]; exact isq_ge w0.1 (by omega)
  have w2 : W ≤ 134217728 := by rw [hW, rootW, ← hmE]; exact (isq_big ⟨by omega, w0.2⟩).2.1
  have s0 : 1 ≤ m * 1048576 ∧ m * 1048576 ≤ 9007199254740992 := by omega
  have s1 : 1 ≤ S := by rw [hS]; exact isq_ge s0.1 (by omega)
  have s2 : S ≤ 134217728 := by rw [hS]; exact (isq_big ⟨by omega, s0.2⟩).2.1
  have o0 : -2147483648 ≤ O ∧ O ≤ 2147483648 := by rw [hO, rootO, ← hW]; exact quo_big (by decide) (by omega)
  have c10 : 0 ≤ c1 := by rw [hc1]; exact ceil_nn (by omega) (by omega)
  have c20 : 0 ≤ c2 := by rw [hc2]; exact ceil_nn (by decide) (by omega)
  -- what the outcome is
  rw [← hO, ← hW, hR] at hor
  have hu : -67108864 ≤ W ∧ W ≤ 67108864 ∧ (-67108864 ≤ O ∧ O ≤ 67108864) ∧ c1 + 3 + c2 ≤ 67108864 ∧ u = (if t.1 < 0 then (O, W, c1 + 3 + c2) else (W, O, c1 + 3 + c2)) := by
    obtain ⟨a, b, c⟩ := hin
    rcases hor with ⟨hz, e⟩ | ⟨hz, e⟩
    · rw [e] at a b c
      rw [e, if_pos hz]
      exact ⟨b.1, b.2, a, c.2, rfl⟩
    · rw [e] at a b c
      rw [e, if_neg (by omega)]
      exact ⟨a.1, a.2, b, c.2, rfl⟩
  clear hor hin
  obtain ⟨u1, u2, u3, u4, u5⟩ := hu
  obtain ⟨q, hq⟩ : ∃ q, q = (bif ltI t.1 0 then (t.2.1.natAbs : Int) else t.2.1) := ⟨_, rfl⟩
  obtain ⟨fl, hfl⟩ : ∃ fl, fl = flgI t.2.1 1048576 (2 * W) := ⟨_, rfl⟩
  have hfb := flg_big t.2.1 1048576 (2 * W)
  rw [← hfl] at hfb
  have hO2 : O = quoI t.2.1 1048576 (2 * W) := by
    rw [hO, rootO, ← hW]
    cases hz : ltI t.1 0 with
    | false => rfl
    | true =>
      have hz := ltI_iff.1 hz
      have : (t.2.1.natAbs : Int) = t.2.1 := by rcases hs with hs | hs <;> omega
      simp only [cond_true, this]
  have HO2 := Lib.hid hO2
  have Hfl := Lib.hid hfl
  have HW := Lib.hid hW
  have HS := Lib.hid hS
  have HmE := Lib.hid hmE
  have Hc1 := Lib.hid hc1
  have Hc2 := Lib.hid hc2
  clear hO hO2 hfl hW hS hmE hc1 hc2 hR hq q
  obtain ⟨l, hl⟩ : ∃ l, l = [t.1, t.2.1, t.2.2, m, W, O, fl, S, c1, c2] := ⟨_, rfl⟩
  have v0 : (vEnv l).i 0 = t.1 := by rw [hl]; exact vEnv_i rfl (by decide) (by omega)
  have v1 : (vEnv l).i 1 = t.2.1 := by rw [hl]; exact vEnv_i rfl (by decide) (by omega)
  have v2 : (vEnv l).i 2 = t.2.2 := by rw [hl]; exact vEnv_i rfl (by decide) (by omega)
  have v3 : (vEnv l).i 3 = m := by rw [hl]; exact vEnv_i rfl (by decide) (by omega)
  have v4 : (vEnv l).i 4 = W := by rw [hl]; exact vEnv_i rfl (by decide) (by omega)
  have v5 : (vEnv l).i 5 = O := by rw [hl]; exact vEnv_i rfl (by decide) (by omega)
  have v6 : (vEnv l).i 6 = fl := by rw [hl]; exact vEnv_i rfl (by decide) (by omega)
  have v7 : (vEnv l).i 7 = S := by rw [hl]; exact vEnv_i rfl (by decide) (by omega)
  have v8 : (vEnv l).i 8 = c1 := by rw [hl]; exact vEnv_i rfl (by decide) (by omega)
  have v9 : (vEnv l).i 9 = c2 := by rw [hl]; exact vEnv_i rfl (by decide) (by omega)
  clear hl
  have hg := vEnv_good l
  generalize vEnv l = η at *
  have ww : ∀ {v : Nat} {a : Int}, η.i v = a → -9223372036854775807 ≤ a ∧ a ≤ 9223372036854775807 → wr (evP η.i (pvar v)) = a := fun h ha => by rw [evP_pvar, h]; exact wr_mid ha
  have e1 : wr (evP η.i (nP 0 1)) = nrm t.1 t.2.1 := by rw [ev_nP, v0, v1]; exact wr_mid (by omega)
  have e3 : wr (evP η.i (ptimes (pvar 3) (pconst 1048576))) = m * 1048576 := by rw [evP_ptimes, evP_pvar, evP_pconst, v3]; exact wr_mid (by omega)
  have e4 : wr (evP η.i (ptimes (pconst 2) (pvar 4))) = 2 * W := by rw [evP_ptimes, evP_pvar, evP_pconst, v4]; exact wr_mid (by omega)
  have e5 : wr (evP η.i (ptimes (pvar 2) (pconst 1048576))) = t.2.2 * 1048576 := by rw [evP_ptimes, evP_pvar, evP_pconst, v2]; exact wr_mid (by omega)
  have t37 : TabOk η 37 rt37 := TabOk.cons (fun _ E args w ha => by
    rw [gives_three ha (ww v1 (by omega)) e4]
    have hqa := quot_any t.2.1 1048576 (2 * W) O (decide (fl ≠ 0)) w (by omega) (by decide) (by omega) ⟨HO2.out, by rw [Hfl.out]⟩
    refine ⟨.tuple #[.int .i64 O, .bool (decide (fl ≠ 0))], ?_, gives_of Try.fok37 hqa⟩
    have q5 := ww v5 (by omega)
    rw [evP_pvar] at q5
    simp only [rnS, Sv.den, denParts, denPart, Sc.den, Ix.den, Bx.den, Atom.den, q5, evP_pvar, v6, Option.map_some]
    by_cases h0 : fl = 0 <;> simp [h0]) TabOk.nil
  have t31 : TabOk η 31 rt31 := TabOk.cons (fun _ E args w ha => by
      rw [gives_two' ha e5 (ww v7 (by omega))]
      refine ⟨.int .i64 c1, iS_den (ww v8 (by omega)), gives_of Try.fok31 (below_eq ?_)⟩
      rw [Hc1.out]
      exact ceil_any _ _ w (by omega) (by omega)) (TabOk.cons (fun _ E args w ha => by
      rw [gives_two'' ha (ww v4 (by omega))]
      refine ⟨.int .i64 c2, iS_den (ww v9 (by omega)), gives_of Try.fok31 (below_eq ?_)⟩
      rw [Hc2.out]
      exact ceil_any _ _ w (by decide) (by omega)) TabOk.nil)
  have t51 : ∀ b, wr (evP η.i (sgP b 0)) = t.1.natAbs → evP η.i (sgP b 0) = t.1.natAbs → TabOk η 51 (rt51 b) := fun b _ hb => TabOk.cons (fun _ E args w ha => by
      rw [gives_int ha e1]
      refine ⟨.int .i64 m, iS_den (ww v3 (by omega)), gives_of Try.fok51 (below_ex ?_)⟩
      rw [HmE.out]
      exact root_any _ w (by omega) (by omega)) (TabOk.cons (fun _ E args w ha => by
      rw [gives_int ha (n := (m + t.1.natAbs) * 524288) (by rw [evP_ptimes, evP_pplus, evP_pvar, evP_pconst, v3, hb]; exact wr_mid (by omega))]
      refine ⟨.int .i64 W, iS_den (ww v4 (by omega)), gives_of Try.fok51 (below_ex ?_)⟩
      rw [HW.out, rootW, ← HmE.out]
      exact root_any _ w (by omega) (by omega)) (TabOk.cons (fun _ E args w ha => by
      rw [gives_int ha e3]
      refine ⟨.int .i64 S, iS_den (ww v7 (by omega)), gives_of Try.fok51 (below_ex ?_)⟩
      rw [HS.out]
      exact root_any _ w (by omega) (by omega)) TabOk.nil))
  have hsize : ∀ {a : Int} {η' : Env} {p : Poly}, η' = η → -67108864 ≤ a ∧ a ≤ 67108864 → wr (evP η.i p) = (a.natAbs : Int) → ∀ {v : Nat}, η.i v = a → ∀ (E : Emb) args w, denArgs η E [iS (pvar v)] = some args → ∃ z, (iS p).den η E = some z ∧ Gives Try.prog 52 args.toArray w z := by
    intro a η' p _ ha hp v hv E args w h
    rw [gives_int h (ww hv (by omega))]
    exact ⟨_, iS_den hp, gives_of Try.fok52 (below_eq (size_any _ w (by omega)))⟩
  have hrest : PC.holds η rtRest := holds_ap (fitP_of (by rw [evP_pvar, v5]; exact u3)) (holds_cs (by simp only [Atom.den, evP_pminus, evP_pplus, evP_pvar, evP_pconst, v8, v9]; exact decide_eq_false (by omega))
    (holds_ap (bndB_of v0 v1 v2 ht) (holds_ap (upTo_of (by omega)) (holds_ap (upTo_of (by omega)) (holds_ap (upTo_of (by omega)) (holds_ap (upTo_of (by omega)) (holds_ap (upTo_of (by omega)) (upTo_of (by omega)))))))))
  have hm3 : (Atom.pos (pminus (pvar 3) (pvar 2))).den η = true := by simp only [Atom.den, evP_pminus, evP_pvar, v3, v2]; exact decide_eq_true (by omega)
  have hrad : (Ix.poly (pplus (pplus (pvar 8) (pconst 3)) (pvar 9))).den η = c1 + 3 + c2 := by
    show wr (evP η.i _) = _
    rw [evP_pplus, evP_pplus, evP_pvar, evP_pvar, evP_pconst, v8, v9]; exact wr_mid (by omega)
  have hargs : denArgs η E0 [ballS 0] = some [balT t] := by simp only [denArgs, ballS_den v0 v1 v2 ht]
  by_cases hneg : t.1 < 0
  · have hab : (t.1.natAbs : Int) = -t.1 := by omega
    have hi : t.2.2 < t.2.1 := by rcases hs with hs | hs <;> omega
    have p0 : evP η.i (sgP false 0) = t.1.natAbs := by show evP η.i (pneg (pvar 0)) = _; rw [evP_pneg, evP_pvar, v0]; omega
    have t52 : TabOk η 52 (rt52 false) := TabOk.cons (fun _ E args w ha => hsize rfl (a := t.1) (by omega) (by rw [evP_pneg, evP_pvar, v0, hab]; exact wr_mid (by omega)) v0 E args w ha)
      (TabOk.cons (fun _ E args w ha => hsize rfl (a := t.2.1) (by omega) (by rw [evP_pvar, v1, show (t.2.1.natAbs : Int) = t.2.1 by omega]; exact wr_mid (by omega)) v1 E args w ha) TabOk.nil)
    have hC : (mkC (smR false)).Ok Try.prog η := mkC_ok hg (((((smA_ok hg).set (by decide) (gTab_ok hg (t51 false (by rw [p0]; exact wr_mid (by omega)) p0))).set (by decide) (gTab_ok hg t37)).set (by decide) (gTab_ok hg t31)).set (by decide) (gTab_ok hg t52))
    have hsg : PC.holds η (rtSg false) := by
      refine holds_cs ?_ (holds_cs ?_ (holds_cs ?_ (holds_cs ?_ (fun x hx => by cases hx))))
      · simp only [Atom.den, evP_pneg, evP_pvar, v0]; exact decide_eq_true (by omega)
      · simp only [Atom.den, evP_pminus, evP_pvar, v1, v2]; exact decide_eq_true (by omega)
      · simp only [Atom.den, evP_pminus, evP_pneg, evP_pvar, v1, v2]; exact decide_eq_false (by omega)
      · simp only [Atom.den, evP_pneg, evP_pvar, v1]; exact decide_eq_false (by omega)
    obtain ⟨r, hr, hrr⟩ := Tree.all_at (η := η) rtRunF
    have hrr := svEq_iff hrr
    obtain ⟨v, e1, e2, e3⟩ := run_sumP hC Try.fok19 (holds_cs hm3 (holds_ap hsg hrest)) hr (by rw [hrr]; rfl) w hargs
    rw [hrr] at e1
    have e1' : (rtS false).den η E0 = _ := outV_den (ww v5 (by omega)) (ww v4 (by omega)) hrad
    rw [e1'] at e1
    cases e1
    rw [u5, if_pos hneg]
    exact e3
  · have hab : (t.1.natAbs : Int) = t.1 := by omega
    have p0 : evP η.i (sgP true 0) = t.1.natAbs := by show evP η.i (pvar 0) = _; rw [evP_pvar, v0]; omega
    have t52 : TabOk η 52 (rt52 true) := TabOk.cons (fun _ E args w ha => hsize rfl (a := t.1) (by omega) (by rw [evP_pvar, v0, hab]; exact wr_mid (by omega)) v0 E args w ha) TabOk.nil
    have hC : (mkC (smR true)).Ok Try.prog η := mkC_ok hg (((((smA_ok hg).set (by decide) (gTab_ok hg (t51 true (by rw [p0]; exact wr_mid (by omega)) p0))).set (by decide) (gTab_ok hg t37)).set (by decide) (gTab_ok hg t31)).set (by decide) (gTab_ok hg t52))
    have hsg : PC.holds η (rtSg true) := by
      refine holds_cs ?_ (fun x hx => by cases hx)
      simp only [Atom.den, evP_pneg, evP_pvar, v0]; exact decide_eq_false (by omega)
    obtain ⟨r, hr, hrr⟩ := Tree.all_at (η := η) rtRunT
    have hrr := svEq_iff hrr
    obtain ⟨v, e1, e2, e3⟩ := run_sumP hC Try.fok19 (holds_cs hm3 (holds_ap hsg hrest)) hr (by rw [hrr]; rfl) w hargs
    rw [hrr] at e1
    have e1' : (rtS true).den η E0 = _ := outV_den (ww v4 (by omega)) (ww v5 (by omega)) hrad
    rw [e1'] at e1
    cases e1
    rw [u5, if_neg hneg]
    exact e3
end
end Go.Ex

