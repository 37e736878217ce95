/-
  The law TopJonesIntoMueller, called with any slice of elements and any four numbers.
-/
import Derived.Test.YtcggbkocpahkdaaLwJonRA
import Derived.Test.YtcggbkocpahkdaaLwJonRB
import Derived.Test.YtcggbkocpahkdaaLwJonRC
import Derived.Test.YtcggbkocpahkdaaLwJonRD
import Derived.Test.YtcggbkocpahkdaaLwJonRE
import Derived.Test.YtcggbkocpahkdaaLwJonRG
namespace Go.Proofs.Ytcggbkocpahkdaa
open Go Go.Ex Go.RowKit
theorem jwS {η : Env} {n k : Nat} (h : PC.holds η (jWay n (k / 2))) (h0 : decide (η.i (6 * n + 2) = 0) = Nat.beq (k % 2) 0) : PC.holds η (jWay (n + 1) k) := by
  simp only [jWay]
  refine holds_cn ?_ h
  simpa [Atom.den, evP, evM] using h0
theorem jway (η : Env) : ∀ n, ∃ k, k < 2 ^ n ∧ PC.holds η (jWay n k)
  | 0 => ⟨0, by decide, fun x hx => by cases hx⟩
  | n + 1 => by
    obtain ⟨k, h1, h2⟩ := jway η n
    have e : 2 ^ (n + 1) = 2 * 2 ^ n := by rw [Nat.pow_succ, Nat.mul_comm]
    by_cases hz : η.i (6 * n + 2) = 0
    · refine ⟨2 * k, by omega, jwS (by rw [show 2 * k / 2 = k by omega]; exact h2) ?_⟩
      rw [show 2 * k % 2 = 0 by omega, decide_eq_true hz]; rfl
    · refine ⟨2 * k + 1, by omega, jwS (by rw [show (2 * k + 1) / 2 = k by omega]; exact h2) ?_⟩
      rw [show (2 * k + 1) % 2 = 1 by omega, decide_eq_false hz]; rfl
theorem jrAll : ∀ n, n ≤ 3 → ∀ k, k < 2 ^ n → ((jGo n (jWay n k)).all lawTrue) = true
  | 0, _ => fun k hk => by
    have : k = 0 := by simp at hk; exact hk
    subst this; exact jr0_0
  | 1, _ => fun k hk => by
    have : k = 0 ∨ k = 1 := by simp at hk; omega
    rcases this with rfl | rfl
    · exact jr1_0
    · exact jr1_1
  | 2, _ => fun k hk => by
    have : k = 0 ∨ k = 1 ∨ k = 2 ∨ k = 3 := by simp at hk; omega
    rcases this with rfl | rfl | rfl | rfl
    · exact jr2_0
    · exact jr2_1
    · exact jr2_2
    · exact jr2_3
  | 3, _ => fun k hk => by
    have : k = 0 ∨ k = 1 ∨ k = 2 ∨ k = 3 ∨ k = 4 ∨ k = 5 ∨ k = 6 ∨ k = 7 := by simp at hk; omega
    rcases this with rfl | rfl | rfl | rfl | rfl | rfl | rfl | rfl
    · exact jr3_0
    · exact jr3_1
    · exact jr3_2
    · exact jr3_3
    · exact jr3_4
    · exact jr3_5
    · exact jr3_6
    · exact jr3_7
  | n + 4, h => by omega
theorem lawTrue_out {x : Sv × St} {η : Env} (hx : lawTrue x = true) : x.1.den η E0 = some (.bool true) ∧ below 0 x.1 = true := by
  have h := svEq_iff hx
  rw [h]; exact ⟨rfl, rfl⟩
abbrev uuF : Nat → List Int → Bool := fun _ _ => false
theorem dt0 : dtabOk 1000 (jD 0 0) = true := by kernel_rfl
theorem dt1 : dtabOk 1000 (jD 1 1) = true := by kernel_rfl
theorem dt2 : dtabOk 1000 (jD 2 2) = true := by kernel_rfl
theorem dt3 : dtabOk 1000 (jD 3 3) = true := by kernel_rfl
theorem nv0 : noVar 9000 (jD 0 0) = true := by kernel_rfl
theorem nv1 : noVar 9000 (jD 1 1) = true := by kernel_rfl
theorem nv2 : noVar 9000 (jD 2 2) = true := by kernel_rfl
theorem nv3 : noVar 9000 (jD 3 3) = true := by kernel_rfl
theorem dtAll : ∀ n, n ≤ 3 → dtabOk 1000 (jD n n) = true ∧ noVar 9000 (jD n n) = true
  | 0, _ => ⟨dt0, nv0⟩
  | 1, _ => ⟨dt1, nv1⟩
  | 2, _ => ⟨dt2, nv2⟩
  | 3, _ => ⟨dt3, nv3⟩
  | n + 4, h => by omega
theorem okCj {η : Env} (hg : GoodF η) {n : Nat} (hn : n ≤ 3) (hD : DOk η (jD n n)) : (Cj n).Ok Try.prog η := mkC_ok hg (smJ_ok hg hD (jX_ok hg hn hD))
theorem repK6 : ∀ n, repK [.i, .i, .i, .i, .i, .i] n = List.replicate (6 * n) .i
  | 0 => rfl
  | n + 1 => by
    have e : 6 * (n + 1) = 6 * n + 1 + 1 + 1 + 1 + 1 + 1 := by omega
    rw [repK, repK6 n, e]
    rfl
theorem nIs_rep : ∀ n, nIs (List.replicate n .i) = n ∧ nFs (List.replicate n .i) = 0
  | 0 => ⟨rfl, rfl⟩
  | n + 1 => by
    rw [List.replicate_succ]
    have h := nIs_rep n
    exact ⟨by simp only [nIs, nI1, h.1]; omega, by simp only [nFs, nF1, h.2]⟩
theorem law12_few {n : Nat} (hn : n ≤ 3) {cs c1 : List Value} (h0 : LeafsOk (List.replicate (6 * n) .i) cs) (h1 : LeafsOk [.i, .i, .i, .i] c1) {W : World} {B off cap : Nat} (hcap : cap ≤ 9223372036854775807) {c : Array Value} {e : TypeId} {fz : Nat × Nat} (hB : W.heap[B]? = some (.cells c e fz)) (hc : ∀ j v, cs[j]? = some v → c[off + j]? = some v) :
    Calls Try.prog 12 #[.slice (some ⟨B, off, none⟩) n cap, .agg c1.toArray] W fun e w' => e = .returned (.bool true) ∧ Below W.heap.size W w' := by
  obtain ⟨l, hl⟩ : ∃ l : List (Bool × List Value), l = [(true, cs), (true, c1)] := ⟨_, rfl⟩
  have hA : ArgsOk ((true, List.replicate (6 * n) .i) :: sh4) l := by rw [hl]; exact ⟨rfl, h0, (fun h => by cases h), rfl, h1, (fun h => by cases h), trivial⟩
  have hlen : (intsOf (cellsV l)).length = 6 * n + 4 := by
    rw [args_len hA]
    simp only [nIq, sh4, (nIs_rep (6 * n)).1]
    rfl
  obtain ⟨dt, nv⟩ := dtAll n hn
  obtain ⟨iv, hiv⟩ : ∃ iv, iv = dEnv l uuF (fun v => if v = 9000 then (cap : Int) else 0) (jD n n) := ⟨_, rfl⟩
  have hg := lawEnv_good hA iv uuF
  have hD : DOk (lawEnv l iv uuF) (jD n n) := by rw [hiv]; exact dEnv_ok (N := 1000) (by omega) _ (Nat.le_refl _) dt
  have hC := okCj hg hn hD
  have hcv : ((lawEnv l iv uuF).i 9000).toNat = cap := by
    rw [lawEnv_i _ _ _ (by decide), List.getElem?_eq_none (by omega), Option.getD_none, hiv, dEnv_ne _ _ _ (noVar_ok nv)]
    simp only [if_true]
    rw [wr_in (by omega)]; omega
  obtain ⟨k, hk, hpc⟩ := jway (lawEnv l iv uuF) n
  obtain ⟨x, hx, hxr⟩ := Tree.all_at (η := lawEnv l iv uuF) (jrAll n hn k hk)
  obtain ⟨e1, e2⟩ := lawTrue_out (η := lawEnv l iv uuF) hxr
  have hx' : (callE (Cj n) (drawX (Cj n)) 3000 (FI.of Try.f12 true) (.one (.asl 0 (.lit (.ofNat n)) 9000) :: canA (nIs (List.replicate (6 * n) .i)) (nFs (List.replicate (6 * n) .i)) sh4) (stM (canL 0 0 (List.replicate (6 * n) .i)) (jWay n k))).at_ (lawEnv l iv uuF) = some x := by
    rw [(nIs_rep (6 * n)).1, (nIs_rep (6 * n)).2]; exact hx
  obtain ⟨v, g1, _, g3⟩ := law_slice hC Try.fok12 (len := .lit (.ofNat n)) (k := n) rfl hpc hx' e2 hcv (cs := cs) (l := [(true, c1)]) (fun E => by
    have := lawEnv_den hA (by omega) iv uuF (E := E)
    rw [hl] at this ⊢; exact this) W hB hc
  rw [e1] at g1
  cases g1
  exact g3
theorem law12_many {n : Nat} (hn : 3 < n) {c1 : List Value} (h1 : LeafsOk [.i, .i, .i, .i] c1) {W : World} {B off cap : Nat} (hnc : n ≤ cap) (hcap : cap ≤ 9223372036854775807) {c : Array Value} {e : TypeId} {fz : Nat × Nat} (hB : W.heap[B]? = some (.cells c e fz)) :
    Calls Try.prog 12 #[.slice (some ⟨B, off, none⟩) n cap, .agg c1.toArray] W fun e w' => e = .returned (.bool true) ∧ Below W.heap.size W w' := by
  obtain ⟨l, hl⟩ : ∃ l : List (Bool × List Value), l = [(true, []), (true, c1)] := ⟨_, rfl⟩
  have hA : ArgsOk ((true, []) :: sh4) l := by rw [hl]; exact ⟨rfl, trivial, (fun h => by cases h), rfl, h1, (fun h => by cases h), trivial⟩
  have hlen : (intsOf (cellsV l)).length = 4 := args_len hA
  obtain ⟨iv, hiv⟩ : ∃ iv : Nat → Int, iv = fun v => if v = 9000 then (cap : Int) else n := ⟨_, rfl⟩
  have hg := lawEnv_good hA iv uuF
  have hD : DOk (lawEnv l iv uuF) (jD 0 0) := fun x hx => by cases hx
  have hC := okCj hg (by decide) hD
  have hcv : ((lawEnv l iv uuF).i 9000).toNat = cap := by
    rw [lawEnv_i _ _ _ (by decide), List.getElem?_eq_none (by omega), Option.getD_none, hiv]
    simp only [if_true]
    rw [wr_in (by omega)]; omega
  have hnv : (lawEnv l iv uuF).i 4 = n := by
    rw [lawEnv_i _ _ _ (by decide), List.getElem?_eq_none (by omega), Option.getD_none, hiv]
    simp only [show ¬ (4 : Nat) = 9000 by decide, if_false]
    exact wr_in (by omega)
  have hpc : PC.holds (lawEnv l iv uuF) bigPc := holds_cn (by simp only [Atom.den, evP, evM, Int.mul_one, Int.one_mul, Int.add_zero, hnv]; exact decide_eq_true (by omega)) fun x hx => by cases hx
  obtain ⟨x, hx, hxr⟩ := Tree.all_at (η := lawEnv l iv uuF) jrBig
  obtain ⟨e1, e2⟩ := lawTrue_out (η := lawEnv l iv uuF) hxr
  obtain ⟨v, g1, _, g3⟩ := law_slice hC Try.fok12 (len := .poly (pvar 4)) (k := n) (ks := []) (sh := sh4) (by
    simp only [Ix.den, evP_pvar, hnv]
    rw [wr_in (by omega)]; omega) hpc hx e2 hcv (cs := []) (l := [(true, c1)]) (fun E => by
    have := lawEnv_den hA (by omega) iv uuF (E := E)
    rw [hl] at this ⊢; exact this) W hB (off := off) (fun j v hj => by simp at hj)
  rw [e1] at g1
  cases g1
  exact g3
theorem law12_nil {c1 : List Value} (h1 : LeafsOk [.i, .i, .i, .i] c1) (W : World) :
    Calls Try.prog 12 #[.slice none 0 0, .agg c1.toArray] W fun e w' => e = .returned (.bool true) ∧ Below W.heap.size W w' := by
  have hA : ArgsOk sh4 [(true, c1)] := ⟨rfl, h1, (fun h => by cases h), trivial⟩
  have hlen : (intsOf (cellsV [(true, c1)])).length = 4 := args_len hA
  have hg := lawEnv_good hA (fun _ => 0) uuF
  have hC := okCj hg (n := 0) (by decide) (fun x hx => by cases hx)
  obtain ⟨x, hx, hxr⟩ := Tree.all_at (η := lawEnv [(true, c1)] (fun _ => 0) uuF) jrNil
  obtain ⟨e1, e2⟩ := lawTrue_out (η := lawEnv [(true, c1)] (fun _ => 0) uuF) hxr
  obtain ⟨v, g1, _, g3⟩ := run_sumP hC Try.fok12 (fun x hx => by cases hx) hx e2 W (vs := [.slice none 0 0, .agg c1.toArray]) (by
    have := lawEnv_den hA (by omega) (fun _ => 0) uuF (E := E0)
    simp only [denArgs, Sv.den, Sc.den, this]
    rfl)
  rw [e1] at g1
  cases g1
  exact g3
end Go.Proofs.Ytcggbkocpahkdaa
