/- The law PolarBothWays answers true for every input, and leaves its arguments as they were. Conditions: none. -/
import Derived.Test.YtcggbkocpahkdaaLwBothR
import Derived.Test.YtcggbkocpahkdaaLwBothC
namespace Go.Proofs.Ytcggbkocpahkdaa
open Go Go.Ex Go.ChangeShapes Go.WideShapes Go.ChangeAt Go.RowKit
theorem polarBothWaysOwn : ownKnob Try.prog.godebug = none := by kernel_rfl
set_option maxRecDepth 100000 in
theorem polarBothWaysLifted (os : Os) (started : os.Started) (H : Type) (enc : TypeId × Value → H) :
    ReturnsInHanded {} Try.checked os 16 .any (Rows.polarBothWaysSpec.pre6 enc Try.prog Try.f16 Rows.polarBothWaysRow.domain false) (Rows.polarBothWaysSpec.post enc Try.prog Try.f16 false true false false) := by
  refine returnsInHanded_of_change (C := Try.checked) polarBothWaysOwn started (by kernel_rfl) Try.func16
    (ChangeSpec.witness6 (enc := enc) (C := Try.checked) false ⟨#[], #[.agg #[.int .i64 0, .int .i64 0, .int .i64 0, .int .i64 0, .int .i64 0, .int .i64 0, .int .i64 0, .int .i64 0], .agg #[.int .i64 0, .int .i64 0, .int .i64 0, .int .i64 0, .int .i64 0, .int .i64 0, .int .i64 0, .int .i64 0], .agg #[.int .i64 0, .int .i64 0, .int .i64 0, .int .i64 0]], []⟩ 8 (by kernel_rfl) (by kernel_rfl) (by kernel_rfl) (by kernel_rfl)) ?_
  intro W base args ds gs before hval0 hW hcnd _
  have hval : ∀ (j : Nat) t v, Try.f16.params[j]? = some t → args[j]? = some v → Value.okWide Try.prog W .any base t v := hval0
  have hW' := hW
  obtain ⟨p, q, hA0, hV, rfl, hfz, hnd⟩ := hW
  have hA : DataW.TrodAll enc Try.prog W 0 (fun _ => true) true Try.f16.params.toList args.toList ds p := hA0
  rw [Try.params16] at hA hval
  obtain ⟨v0, v1, v2, d0, d1, d2, p0, p1, p2, rfl, rfl, rfl, h0, h1, h2⟩ := trodAll_three hA
  obtain ⟨rfl, rfl⟩ := trodVars_none hV
  obtain ⟨c0, rfl, l0, rfl, s0⟩ := flat_agg (n := 9) (ks := [.i, .i, .i, .i, .i, .i, .i, .i]) (by kernel_rfl) (by kernel_rfl) (hval 0 133 _ rfl rfl) h0
  obtain ⟨c1, rfl, l1, rfl, s1⟩ := flat_agg (n := 9) (ks := [.i, .i, .i, .i, .i, .i, .i, .i]) (by kernel_rfl) (by kernel_rfl) (hval 1 133 _ rfl rfl) h1
  obtain ⟨c2, rfl, l2, rfl, s2⟩ := flat_agg (n := 9) (ks := [.i, .i, .i, .i]) (by kernel_rfl) (by kernel_rfl) (hval 2 55 _ rfl rfl) h2
  clear hA0 hval0
  simp only [List.append_nil] at hW'
  have hc := law_anyG (G := bothG) (X := bothX) (sm := smE) (n := 3000) smE_ok bothX_ok Try.fok16 polarBothWaysRun (by kernel_rfl) (l := [(true, c0), (true, c1), (true, c2)]) ⟨rfl, l0, by simp, ⟨rfl, l1, by simp, ⟨rfl, l2, by simp, trivial⟩⟩⟩ W
  refine hc.mono fun e W' ⟨he, hw⟩ => ?_
  subst he
  exact ⟨_, rfl, post_of_below (pa := []) (pv := []) hW' (fun _ _ _ => trodAll_mk1 (shut_true Try.underlying4)) (fun sp _ => trodAll_mk3 (s0 _ _ _ _) (s1 _ _ _ _) (s2 _ _ _ _)) (fun _ _ => rfl) rfl hw (ok_one (by kernel_rfl) rfl (okWide_true Try.underlying4))⟩

theorem polarBothWaysHolds : Rows.PolarBothWaysSaid :=
  OpenClaim.holds_of_wide 16 Try.f16 rfl rfl rfl rfl rfl rfl rfl ⟨rfl, rfl, rfl, rfl, rfl⟩ rfl rfl rfl rfl rfl (by kernel_rfl) Try.func16 polarBothWaysClosed
    (of_decide_eq_true (by kernel_rfl)) (by unfold Func.isWrapper; first | (rw [if_pos (by decide +kernel)]; kernel_rfl) | (rw [if_neg (by decide +kernel)]; exact ⟨rfl, rfl⟩))
    (fun os started H enc _ => polarBothWaysLifted os started H enc)
#print axioms polarBothWaysHolds
end Go.Proofs.Ytcggbkocpahkdaa
