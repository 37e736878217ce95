/-
  The law of unit numbers answers true at any two numbers.
-/
import Derived.Test.YtoheddhbcpjmkaaLwP4
import Derived.Test.YtoheddhbcpjmkaaLwUnK
import Derived.Test.YtoheddhbcpjmkaaLwUnKb
import Derived.Test.YtoheddhbcpjmkaaLwUnKc
import Derived.Test.YtoheddhbcpjmkaaLwUnJ1
import Derived.Test.YtoheddhbcpjmkaaLwUnJ2
import Derived.Test.YtoheddhbcpjmkaaLwUnJ3
import Derived.Test.YtoheddhbcpjmkaaLwUnJ4

namespace Go.Ex
open Go Go.Proofs Go.RowKit
theorem out_any {n k : Int} {pc : PC} (hn : -9223372036854775808 ≤ n ∧ n ≤ 9223372036854775807) (hk : -9223372036854775808 ≤ k ∧ k ≤ 9223372036854775807) (hr : (oRun pc).all lawTrue = true) (hpc : ∀ η : Env, η.i 0 = k → η.i 1 = n → PC.holds η pc) (w : World) :
    Calls Try.prog 4 #[.int .i64 n, .int .i64 k] w fun e w' => e = .returned (.bool true) ∧ Below w.heap.size w w' := by
  obtain ⟨l, hl⟩ : ∃ l, l = [k, n] := ⟨_, rfl⟩
  have v0 : (vEnv l).i 0 = k := by rw [hl]; exact vEnv_i rfl (by decide) hk
  have v1 : (vEnv l).i 1 = n := by rw [hl]; exact vEnv_i rfl (by decide) hn
  clear hl
  have hg := vEnv_good l
  generalize vEnv l = η at *
  have hC : (mkC (smA.set 5 (some (gLit [] (.one (.bool (.lit true))))))).Ok Try.prog η := mkC_ok hg ((smA_ok hg).set (by decide) (balledOk hg))
  obtain ⟨x, hx, hxr⟩ := Tree.all_at (η := η) hr
  have hxr := svEq_iff hxr
  have hargs : denArgs η E0 [iS (pvar 1), iS (pvar 0)] = some [.int .i64 n, .int .i64 k] := by
    show some [Value.int .i64 (wr (evP η.i (pvar 1))), .int .i64 (wr (evP η.i (pvar 0)))] = _
    rw [evP_pvar, evP_pvar, v0, v1, wr_in hk, wr_in hn]
  obtain ⟨v, e1, e2, e3⟩ := run_sumP hC Try.fok4 (hpc η v0 v1) hx (by rw [hxr]; rfl) w hargs
  rw [hxr] at e1
  cases e1
  exact e3
theorem law4_any {n k : Int} (hn : -9223372036854775808 ≤ n ∧ n ≤ 9223372036854775807) (hk : -9223372036854775808 ≤ k ∧ k ≤ 9223372036854775807) (w : World) :
    Calls Try.prog 4 #[.int .i64 n, .int .i64 k] w fun e w' => e = .returned (.bool true) ∧ Below w.heap.size w w' := by
  have one : ∀ {η : Env} {p : Poly}, 0 < evP η.i p → PC.holds η [(.pos p, true)] := fun h => holds_cs (by simp only [Atom.den]; exact decide_eq_true h) fun x hx => by cases hx
  by_cases h1 : n < 2
  · exact out_any hn hk oA (fun η u v => one (by rw [evP_pminus, evP_pconst, evP_pvar, v]; omega)) w
  by_cases h2 : 40 < n
  · exact out_any hn hk oB (fun η u v => one (by rw [evP_pminus, evP_pconst, evP_pvar, v]; omega)) w
  by_cases h3 : k < 0
  · exact out_any hn hk oC (fun η u v => one (by rw [evP_pneg, evP_pvar, u]; omega)) w
  by_cases h4 : n - 1 < k
  · exact out_any hn hk oD (fun η u v => one (by rw [evP_pminus, evP_pminus, evP_pconst, evP_pvar, evP_pvar, u, v]; omega)) w
  obtain ⟨N, rfl⟩ : ∃ N : Nat, n = N := ⟨n.toNat, by omega⟩
  obtain ⟨K, rfl⟩ : ∃ K : Nat, k = K := ⟨k.toNat, by omega⟩
  have hKN : K < N := by omega
  have hc : chkQ N K = true ∧ (2 * K + 1 < N → chkR N K = true) := by
    by_cases b1 : N < 22
    · exact chk_at chkJ1 (by omega) (by omega) hKN
    by_cases b2 : N < 30
    · exact chk_at chkJ2 (by omega) (by omega) hKN
    by_cases b3 : N < 36
    · exact chk_at chkJ3 (by omega) (by omega) hKN
    · exact chk_at chkJ4 (by omega) (by omega) hKN
  have hr : (nRun N).all lawTrue = true := by
    by_cases b1 : N < 22
    · exact run_at nAllA (by omega) (by omega)
    by_cases b2 : N < 33
    · exact run_at nAllB (by omega) (by omega)
    · exact run_at nAllC (by omega) (by omega)
  exact law4_in hr ⟨by omega, by omega⟩ hKN hc.1 hc.2 w
end Go.Ex

