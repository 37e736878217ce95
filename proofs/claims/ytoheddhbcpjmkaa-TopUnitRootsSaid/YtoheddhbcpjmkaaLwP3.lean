/-
  Summaries by tables of calls; the direction between two ones.
-/
/-
  The direction between two ones, by values; how the directions from 0 to an eighth are run.
-/
import Derived.Test.YtoheddhbcpjmkaaLwBaT
import Derived.Test.YtoheddhbcpjmkaaLwBaX

namespace Go.Ex
open Go Go.Proofs Go.RowKit
noncomputable section
abbrev CTab := List (List Sv × PC × Sv)
def gTab (T : CTab) : List Sv → PC → Tree (Sv × PC) := fun svs pc => match go T svs pc with
  | some r => .leaf (r, pc)
  | none => .fail
where
  go : CTab → List Sv → PC → Option Sv
    | [], _, _ => none
    | (pat, pre, r) :: T, svs, pc => bif svsEq svs pat && allKn pc pre then some r else go T svs pc
def TabOk (η : Env) (F : FuncId) (T : CTab) : Prop := ∀ x ∈ T, PC.holds η x.2.1 → ∀ E args w, denArgs η E x.1 = some args → ∃ v, x.2.2.den η E = some v ∧ Gives Try.prog F args.toArray w v
theorem gTab_ok {η : Env} (hg : GoodF η) {F : FuncId} {T : CTab} (hT : TabOk η F T) : SumOk Try.prog η F (gTab T) := by
  intro svs pc r pc' h hpc
  unfold gTab at h
  split at h
  · rename_i s hs
    cases h
    refine ⟨hpc, fun E args w ha => ?_⟩
    induction T with
    | nil => cases hs
    | cons x T ih =>
      obtain ⟨pat, pre, r'⟩ := x
      simp only [gTab.go] at hs
      cases hc : (svsEq svs pat && allKn pc pre) with
      | true =>
        rw [hc] at hs; cases hs
        simp only [Bool.and_eq_true] at hc
        rw [svsEq_iff hc.1] at ha
        exact hT _ (List.mem_cons_self ..) (allKn_ok hg hpc hc.2) E args w ha
      | false =>
        rw [hc] at hs
        exact ih (fun x hx => hT x (List.mem_cons_of_mem _ hx)) hs
  · cases h
theorem TabOk.nil {η : Env} {F : FuncId} : TabOk η F [] := fun x hx => by cases hx
theorem TabOk.cons {η : Env} {F : FuncId} {pat : List Sv} {pre : PC} {r : Sv} {T : CTab} (h : PC.holds η pre → ∀ E args w, denArgs η E pat = some args → ∃ v, r.den η E = some v ∧ Gives Try.prog F args.toArray w v) (hT : TabOk η F T) : TabOk η F ((pat, pre, r) :: T) := fun x hx => by
  rcases List.mem_cons.1 hx with rfl | hx
  · exact h
  · exact hT x hx
/-- Quotients (true) and rests (false) that have names. -/
abbrev QTab := List (Bool × Ix × Ix × Ix)
def qop? : BinOp → Option Bool
  | .quo => some true
  | .rem => some false
  | _ => none
def bEq : Bool → Bool → Bool
  | true, b => b
  | false, b => !b
theorem bEq_iff {a b : Bool} (h : bEq a b = true) : a = b := by cases a <;> cases b <;> first | rfl | cases h
def ihT (T : QTab) : PC → BinOp → Ix → Ix → Option Ix := fun _ op x y => match qop? op with
  | some b => go b x y T
  | none => none
where
  go (b : Bool) (x y : Ix) : QTab → Option Ix
    | [] => none
    | (c, u, v, z) :: T => bif bEq b c && (ixEq x u && ixEq y v) then some z else go b x y T
def QOk (η : Env) (T : QTab) : Prop := ∀ x ∈ T, x.2.2.1.den η ≠ 0 ∧ x.2.2.2.den η = if x.1 then IntKind.i64.wrap ((x.2.1.den η).tdiv (x.2.2.1.den η)) else (x.2.1.den η).tmod (x.2.2.1.den η)
theorem ihT_ok {η : Env} {T : QTab} (hT : QOk η T) : ∀ pc op x y z, ihT T pc op x y = some z → PC.holds η pc → ∀ t w, (binOp op t (.int .i64 (x.den η)) (.int .i64 (y.den η))).run Try.prog w = .ok (.int .i64 (z.den η)) w := by
  intro pc op x y z h _ t w
  unfold ihT at h
  split at h
  · rename_i b hb
    have key : ∀ {T : QTab}, QOk η T → ihT.go b x y T = some z → y.den η ≠ 0 ∧ z.den η = if b then IntKind.i64.wrap ((x.den η).tdiv (y.den η)) else (x.den η).tmod (y.den η) := by
      intro T
      induction T with
      | nil => intro _ h; cases h
      | cons e T ih =>
        intro hT h
        obtain ⟨c, u, v, z'⟩ := e
        simp only [ihT.go] at h
        cases hc : (bEq b c && (ixEq x u && ixEq y v)) with
        | true =>
          rw [hc] at h
          cases h
          have h0 := hT _ (List.mem_cons_self ..)
          simp only [Bool.and_eq_true] at hc
          rw [ixEq_iff hc.2.1, ixEq_iff hc.2.2, bEq_iff hc.1]
          exact h0
        | false =>
          rw [hc] at h
          exact ih (fun x hx => hT x (List.mem_cons_of_mem _ hx)) h
    obtain ⟨k1, k2⟩ := key hT h
    cases op <;> simp only [qop?, Option.some.injEq] at hb <;> cases hb
    · simp only [if_true] at k2
      rw [k2]
      simp [binOp, Op.intDiv, k1]
    · simp only [Bool.false_eq_true, if_false] at k2
      rw [k2]
      simp [binOp, Op.intDiv, k1]
  · cases h
def mkQ (sm : T (List Sv → PC → Tree (Sv × PC))) (Q : QTab) : Cx := ⟨Try.tt, Try.ft, sm, .nil, DB, ihT Q, fhB, fun _ _ _ _ => none, f2iB, fun _ _ _ _ _ _ => none⟩
theorem mkQ_ok {η : Env} (hg : GoodF η) {sm : T (List Sv → PC → Tree (Sv × PC))} (hs : SumsOk Try.prog η sm) {Q : QTab} (hQ : QOk η Q) : (mkQ sm Q).Ok Try.prog η where
  tt := Try.tt_ok
  ft := Try.ft_ok
  sm := hs
  hs := fun f g h => by simp [mkQ, T.get_nil] at h
  D := DB_ok hg.toGood
  ih := ihT_ok hQ
  fh := fhB_ok hg
  fa := fun _ _ _ _ _ h => by cases h
  f2i := f2iB_ok hg
  ch := fun _ _ _ _ _ _ _ h => by cases h
  mixed := Try.mixed

/-! ## Values of variables by a list -/
def vEnv (l : List Int) : Env := mkEnv (fun _ => 0) (fun v => (l[v]?).getD 0) uuB
theorem vEnv_good (l : List Int) : GoodF (vEnv l) := mkEnv_good (fun _ => by omega) _ _
theorem vEnv_i {l : List Int} {j : Nat} {x : Int} (h : l[j]? = some x) (hj : j < 10000) (hx : -9223372036854775808 ≤ x ∧ x ≤ 9223372036854775807) : (vEnv l).i j = x := by
  have hv : ¬ 10000 ≤ j := by omega
  have e : (vEnv l).i j = wr ((l[j]?).getD 0) := if_neg hv
  rw [e, h, Option.getD_some]
  exact wr_in hx
def iS (p : Poly) : Sv := .one (.int .i64 (.poly p))
def lS (n : Int) : Sv := .one (.int .i64 (.lit n))
def cS (p q : Poly) : Sv := .agg [.int .i64 (.poly p), .int .i64 (.poly q)]
def cenV (x y : Int) : Value := .agg #[.int .i64 x, .int .i64 y]

/-! ## between -/
def betR (a b c d : Int) : Int := isq (nrm (a + c) (b + d))
def betX (a b c d : Int) : Int := ((a + c) * 67108864).tdiv (betR a b c d)
def betY (a b c d : Int) : Int := ((b + d) * 67108864).tdiv (betR a b c d)
def bSq : Poly := pplus (ptimes (pplus (pvar 0) (pvar 2)) (pplus (pvar 0) (pvar 2))) (ptimes (pplus (pvar 1) (pvar 3)) (pplus (pvar 1) (pvar 3)))
def bT : CTab := [([iS bSq], [], iS (pvar 4))]
def bQ : QTab := [(true, .poly (ptimes (pplus (pvar 0) (pvar 2)) (pconst 67108864)), .poly (pvar 4), .poly (pvar 5)), (true, .poly (ptimes (pplus (pvar 1) (pvar 3)) (pconst 67108864)), .poly (pvar 4), .poly (pvar 6))]
def bC : Cx := mkQ (smA.set 51 (some (gTab bT))) bQ
def bPc : PC := upTo 0 0 67108864 ++ (upTo 1 0 67108864 ++ (upTo 2 0 67108864 ++ upTo 3 0 67108864))
def bRun : Tree (Sv × St) := callE bC (drawX bC) 3000 (FI.of Try.f77 true) [cS (pvar 0) (pvar 1), cS (pvar 2) (pvar 3)] (stP bPc)
def bOk (r : Sv × St) : Bool := svEq r.1 (cS (pvar 5) (pvar 6))
set_option maxRecDepth 100000
theorem bRunOk : bRun.all bOk = true := by kernel_rfl
end
end Go.Ex


namespace Go.Ex
open Go Go.Proofs Go.RowKit
theorem isq_ge {n : Int} (h0 : 1 ≤ n) (h : n < 18446744073709551616) : 1 ≤ isq n := by
  obtain ⟨a, b, c⟩ := isq_spec (by omega) h
  by_cases hz : isq n = 0
  · rw [hz] at c; omega
  · omega
theorem tdiv_abs (x d : Int) : -(x.natAbs : Int) ≤ x.tdiv d ∧ x.tdiv d ≤ x.natAbs := by
  have : (x.tdiv d).natAbs ≤ x.natAbs := by rw [Int.natAbs_tdiv]; exact Nat.div_le_self _ _
  omega
def I26 (x : Int) : Prop := 0 ≤ x ∧ x ≤ 67108864
theorem bet_bnd {a b c d : Int} (ha : I26 a) (hb : I26 b) (hc : I26 c) (hd : I26 d) (h : 1 ≤ a + c) : (1 ≤ nrm (a + c) (b + d) ∧ nrm (a + c) (b + d) ≤ 36028797018963968) ∧ (1 ≤ betR a b c d ∧ betR a b c d ≤ 268435456) ∧ (0 ≤ (a + c) * 67108864 ∧ (a + c) * 67108864 ≤ 9007199254740992) ∧ (0 ≤ (b + d) * 67108864 ∧ (b + d) * 67108864 ≤ 9007199254740992) := by
  unfold I26 at ha hb hc hd
  have m1 := mulLe (x := a + c) (y := a + c) (A := 134217728) (B := 134217728) (by omega) (by omega)
  have m2 := mulLe (x := b + d) (y := b + d) (A := 134217728) (B := 134217728) (by omega) (by omega)
  have m3 := Int.mul_le_mul h h (by omega) (by omega)
  have m4 := sqz (b + d)
  have n1 : 1 ≤ nrm (a + c) (b + d) ∧ nrm (a + c) (b + d) ≤ 36028797018963968 := by unfold nrm; omega
  refine ⟨n1, ⟨isq_ge n1.1 (by omega), isq_le (by omega) (by omega) (by omega) (by omega)⟩, by omega, by omega⟩
noncomputable section
theorem gives_int {η : Env} {E : Emb} {p : Poly} {args : List Value} {n : Int} (h : denArgs η E [iS p] = some args) (hn : wr (evP η.i p) = n) : args = [.int .i64 n] := by
  have h : some [Value.int .i64 (wr (evP η.i p))] = some args := h
  rw [hn] at h
  cases h; rfl
theorem iS_den {η : Env} {E : Emb} {p : Poly} {n : Int} (hn : wr (evP η.i p) = n) : (iS p).den η E = some (.int .i64 n) := by
  have h : (iS p).den η E = some (.int .i64 (wr (evP η.i p))) := rfl
  rw [h, hn]
theorem cS_den {η : Env} {E : Emb} {p q : Poly} {m n : Int} (hm : wr (evP η.i p) = m) (hn : wr (evP η.i q) = n) : (cS p q).den η E = some (cenV m n) := by
  have h : (cS p q).den η E = some (cenV (wr (evP η.i p)) (wr (evP η.i q))) := rfl
  rw [h, hm, hn]
theorem between_any {a b c d : Int} (ha : I26 a) (hb : I26 b) (hc : I26 c) (hd : I26 d) (h : 1 ≤ a + c) (w : World) :
    Calls Try.prog 77 #[cenV a b, cenV c d] w fun e w' => e = .returned (cenV (betX a b c d) (betY a b c d)) ∧ Below w.heap.size w w' := by
  obtain ⟨⟨n1, n2⟩, ⟨r1, r2⟩, x1, y1⟩ := bet_bnd ha hb hc hd h
  have kx := tdiv_abs ((a + c) * 67108864) (betR a b c d)
  have ky := tdiv_abs ((b + d) * 67108864) (betR a b c d)
  obtain ⟨l, hl⟩ : ∃ l, l = [a, b, c, d, betR a b c d, betX a b c d, betY a b c d] := ⟨_, rfl⟩
  unfold I26 at ha hb hc hd
  have v0 : (vEnv l).i 0 = a := by rw [hl]; exact vEnv_i rfl (by decide) (by omega)
  have v1 : (vEnv l).i 1 = b := by rw [hl]; exact vEnv_i rfl (by decide) (by omega)
  have v2 : (vEnv l).i 2 = c := by rw [hl]; exact vEnv_i rfl (by decide) (by omega)
  have v3 : (vEnv l).i 3 = d := by rw [hl]; exact vEnv_i rfl (by decide) (by omega)
  have v4 : (vEnv l).i 4 = betR a b c d := by rw [hl]; exact vEnv_i rfl (by decide) (by omega)
  have v5 : (vEnv l).i 5 = betX a b c d := by rw [hl]; exact vEnv_i rfl (by decide) (by unfold betX; omega)
  have v6 : (vEnv l).i 6 = betY a b c d := by rw [hl]; exact vEnv_i rfl (by decide) (by unfold betY; omega)
  clear hl
  have hg := vEnv_good l
  generalize vEnv l = η at *
  have w4 : wr (evP η.i (pvar 4)) = betR a b c d := by rw [evP_pvar, v4]; exact wr_mid (by omega)
  have w5 : wr (evP η.i (pvar 5)) = betX a b c d := by rw [evP_pvar, v5]; exact wr_mid (by unfold betX; omega)
  have w6 : wr (evP η.i (pvar 6)) = betY a b c d := by rw [evP_pvar, v6]; exact wr_mid (by unfold betY; omega)
  have wx : wr (evP η.i (ptimes (pplus (pvar 0) (pvar 2)) (pconst 67108864))) = (a + c) * 67108864 := by
    rw [evP_ptimes, evP_pplus, evP_pvar, evP_pvar, evP_pconst, v0, v2]; exact wr_mid (by omega)
  have wy : wr (evP η.i (ptimes (pplus (pvar 1) (pvar 3)) (pconst 67108864))) = (b + d) * 67108864 := by
    rw [evP_ptimes, evP_pplus, evP_pvar, evP_pvar, evP_pconst, v1, v3]; exact wr_mid (by omega)
  have wsq : wr (evP η.i bSq) = nrm (a + c) (b + d) := by
    simp only [bSq, evP_pplus, evP_ptimes, evP_pvar, v0, v1, v2, v3]
    exact wr_mid (by unfold nrm at n1 n2; omega)
  have hT : TabOk η 51 bT := TabOk.cons (fun _ E args w ha => by
    rw [gives_int ha wsq]
    exact ⟨_, iS_den w4, gives_of Try.fok51 (below_ex (root_big _ w (by omega) (by omega)))⟩) TabOk.nil
  have hQ : QOk η bQ := by
    intro x hx
    simp only [bQ, List.mem_cons, List.not_mem_nil, or_false] at hx
    rcases hx with rfl | rfl
    · refine ⟨show wr (evP η.i (pvar 4)) ≠ 0 by rw [w4]; omega, ?_⟩
      show wr (evP η.i (pvar 5)) = IntKind.i64.wrap ((wr (evP η.i (ptimes (pplus (pvar 0) (pvar 2)) (pconst 67108864)))).tdiv (wr (evP η.i (pvar 4))))
      rw [w4, wx, w5, IntWalk.i64_in _ (by omega)]; rfl
    · refine ⟨show wr (evP η.i (pvar 4)) ≠ 0 by rw [w4]; omega, ?_⟩
      show wr (evP η.i (pvar 6)) = IntKind.i64.wrap ((wr (evP η.i (ptimes (pplus (pvar 1) (pvar 3)) (pconst 67108864)))).tdiv (wr (evP η.i (pvar 4))))
      rw [w4, wy, w6, IntWalk.i64_in _ (by omega)]; rfl
  have hC : bC.Ok Try.prog η := mkQ_ok hg ((smA_ok hg).set (by decide) (gTab_ok hg hT)) hQ
  have hpc : PC.holds η bPc := holds_ap (upTo_of (by omega)) (holds_ap (upTo_of (by omega)) (holds_ap (upTo_of (by omega)) (upTo_of (by omega))))
  obtain ⟨r, hr, hrr⟩ := Tree.all_at (η := η) bRunOk
  have hrr := svEq_iff hrr
  have hargs : denArgs η E0 [cS (pvar 0) (pvar 1), cS (pvar 2) (pvar 3)] = some [cenV a b, cenV c d] := by
    simp only [denArgs, cS_den (η := η) (E := E0) (p := pvar 0) (q := pvar 1) (m := a) (n := b) (by rw [evP_pvar, v0]; exact wr_mid (by omega)) (by rw [evP_pvar, v1]; exact wr_mid (by omega)), cS_den (η := η) (E := E0) (p := pvar 2) (q := pvar 3) (m := c) (n := d) (by rw [evP_pvar, v2]; exact wr_mid (by omega)) (by rw [evP_pvar, v3]; exact wr_mid (by omega))]
  obtain ⟨v, e1, e2, e3⟩ := run_sumP hC Try.fok77 hpc hr (by rw [hrr]; rfl) w hargs
  rw [hrr, cS_den w5 w6] at e1
  cases e1
  exact e3

/-! ## first, at numbers -/
def in26 (x : Int) : Bool := leI 0 x && leI x 67108864
theorem in26_iff {x : Int} (h : in26 x = true) : I26 x := by
  simp only [in26, Bool.and_eq_true, leI_iff] at h
  exact h
def gBet : List Sv → PC → Tree (Sv × PC) := fun svs pc => match svs with
  | [.agg [.int .i64 (.lit a), .int .i64 (.lit b)], .agg [.int .i64 (.lit c), .int .i64 (.lit d)]] => bif (in26 a && in26 b) && ((in26 c && in26 d) && leI 1 (a + c)) then .leaf (.agg [.int .i64 (.lit (betX a b c d)), .int .i64 (.lit (betY a b c d))], pc) else .fail
  | _ => .fail
theorem gBet_ok {η : Env} : SumOk Try.prog η 77 gBet := by
  intro svs pc r pc' h hpc
  unfold gBet at h
  split at h
  · rename_i a b c d
    cases hb : ((in26 a && in26 b) && ((in26 c && in26 d) && leI 1 (a + c))) with
    | false => rw [hb] at h; cases h
    | true =>
      rw [hb] at h; cases h
      simp only [Bool.and_eq_true, leI_iff] at hb
      refine ⟨hpc, fun E args w ha => ?_⟩
      have ha : some [cenV a b, cenV c d] = some args := ha
      cases ha
      exact ⟨_, rfl, gives_of Try.fok77 (between_any (in26_iff hb.1.1) (in26_iff hb.1.2) (in26_iff hb.2.1.1) (in26_iff hb.2.1.2) hb.2.2 w)⟩
  · cases h
def smF : T (List Sv → PC → Tree (Sv × PC)) := (smA.set 51 (some (gOp 7 [(0, 36028797018963968)] zZ))).set 77 (some gBet)
theorem isq_55 {n : Int} (h : 0 ≤ n ∧ n ≤ 36028797018963968) : 0 ≤ isq n ∧ isq n ≤ 268435456 :=
  ⟨(isq_spec h.1 (by omega)).1, isq_le h.1 (by omega) (by omega) (by omega)⟩
theorem s_isq55 {η : Env} (hg : GoodF η) : SumOk Try.prog η 51 (gOp 7 [(0, 36028797018963968)] zZ) := gOp_ok hg (fun x hx => by cases hx) (fun x hx => by cases hx) fun xs h w => by
  obtain ⟨n, rfl, h1⟩ := bndL1 h
  have := isq_55 h1
  exact ⟨gives_of Try.fok51 (below_ex (root_big n w h1.1 h1.2)), wr_mid (by simp only [semD]; omega)⟩
theorem smF_ok {η : Env} (hg : GoodF η) : SumsOk Try.prog η smF := ((smA_ok hg).set (by decide) (s_isq55 hg)).set (by decide) gBet_ok
abbrev FEnt := Int × Int × Int
def fRun (m : Int) : Tree (Sv × St) := callE (mkC smF) (drawX (mkC smF)) 3000 (FI.of Try.f71 true) [lS m] (stP [])
def fOk (e : FEnt) (r : Sv × St) : Bool := svEq r.1 (.agg [.int .i64 (.lit e.2.1), .int .i64 (.lit e.2.2)])
def fAll (l : List FEnt) : Bool := l.all fun e => (fRun e.1).all (fOk e)
theorem first_at {l : List FEnt} (h : fAll l = true) {m x y : Int} (hm : (m, x, y) ∈ l) (w : World) : Calls Try.prog 71 #[.int .i64 m] w fun e w' => e = .returned (cenV x y) ∧ Below w.heap.size w w' := by
  have hr := List.all_eq_true.1 h _ hm
  have hg := vEnv_good []
  obtain ⟨r, hr, hrr⟩ := Tree.all_at (η := vEnv []) hr
  have hrr := svEq_iff hrr
  obtain ⟨v, e1, e2, e3⟩ := run_sumP (mkC_ok hg (smF_ok hg)) Try.fok71 (fun x hx => by cases hx) hr (by rw [hrr]; rfl) w (vs := [.int .i64 m]) rfl
  rw [hrr] at e1
  cases e1
  exact e3
end
end Go.Ex

