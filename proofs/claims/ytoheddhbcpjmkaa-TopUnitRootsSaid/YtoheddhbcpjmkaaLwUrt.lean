/- The law TopUnitRoots answers true for every input, and leaves its arguments as they were. Conditions: none. -/
import Derived.Test.YtoheddhbcpjmkaaLwUnN
import Derived.Test.YtoheddhbcpjmkaaLwUrtC

namespace Go.Proofs.Ytoheddhbcpjmkaa
open Go Go.Ex Go.ChangeShapes Go.WideShapes Go.ChangeAt Go.RowKit
theorem topUnitRootsOwn : ownKnob Try.prog.godebug = none := by kernel_rfl
set_option maxRecDepth 100000 in
theorem topUnitRootsLifted (os : Os) (started : os.Started) (H : Type) (enc : TypeId × Value → H) :
    ReturnsInHanded {} Try.checked os 4 .any (Rows.topUnitRootsSpec.pre6 enc Try.prog Try.f4 Rows.topUnitRootsRow.domain false) (Rows.topUnitRootsSpec.post enc Try.prog Try.f4 false true false false) := by
  refine returnsInHanded_of_change (C := Try.checked) topUnitRootsOwn started (by kernel_rfl) Try.func4
    (ChangeSpec.witness6 (enc := enc) (C := Try.checked) false ⟨#[], #[.int .i64 0, .int .i64 0], []⟩ 8 (by kernel_rfl) (by kernel_rfl) (by kernel_rfl) (by kernel_rfl)) ?_
  intro W base args ds gs before hval0 hW hcnd _
  have hval : ∀ (j : Nat) t v, Try.f4.params[j]? = some t → args[j]? = some v → Value.okWide Try.prog W .any base t v := hval0
  have hW' := hW
  obtain ⟨p, q, hA0, hV, rfl, hfz, hnd⟩ := hW
  have hA : DataW.TrodAll enc Try.prog W 0 (fun _ => true) true Try.f4.params.toList args.toList ds p := hA0
  rw [Try.params4] at hA hval
  obtain ⟨v0, v1, d0, d1, p0, p1, rfl, rfl, rfl, h0, h1⟩ := trodAll_two hA
  obtain ⟨rfl, rfl⟩ := trodVars_none hV
  obtain ⟨l0, rfl, s0⟩ := flat_int Try.underlying3 (hval 0 3 _ rfl rfl) h0
  obtain ⟨l1, rfl, s1⟩ := flat_int Try.underlying3 (hval 1 3 _ rfl rfl) h1
  clear hA0 hval0
  simp only [List.append_nil] at hW'
  have l0' : ∃ n, v0 = .int .i64 n ∧ -9223372036854775808 ≤ n ∧ n ≤ 9223372036854775807 := l0.1
  have l1' : ∃ n, v1 = .int .i64 n ∧ -9223372036854775808 ≤ n ∧ n ≤ 9223372036854775807 := l1.1
  obtain ⟨n, rfl, hn⟩ := l0'
  obtain ⟨k, rfl, hk⟩ := l1'
  have hc := law4_any hn hk W
  refine hc.mono fun e W' ⟨he, hw⟩ => ?_
  subst he
  exact ⟨_, rfl, post_of_below (pa := []) (pv := []) hW' (fun _ _ _ => trodAll_mk1 (shut_true Try.underlying4)) (fun sp _ => trodAll_mk2 (s0 _ _ _ _) (s1 _ _ _ _)) (fun _ _ => rfl) rfl hw (ok_one (by kernel_rfl) rfl (okWide_true Try.underlying4))⟩

theorem topUnitRootsHolds : Rows.TopUnitRootsSaid :=
  OpenClaim.holds_of_wide 4 Try.f4 rfl rfl rfl rfl rfl rfl rfl ⟨rfl, rfl, rfl, rfl, rfl⟩ rfl rfl rfl rfl rfl (by kernel_rfl) Try.func4 topUnitRootsClosed
    (of_decide_eq_true (by kernel_rfl)) (by unfold Func.isWrapper; first | (rw [if_pos (by decide +kernel)]; kernel_rfl) | (rw [if_neg (by decide +kernel)]; exact ⟨rfl, rfl⟩))
    (fun os started H enc _ => topUnitRootsLifted os started H enc)
#print axioms topUnitRootsHolds
end Go.Proofs.Ytoheddhbcpjmkaa

