/- The law PolarPure answers true for every input, and leaves its arguments as they were. Conditions: none. -/
import Derived.Test.YtcggbkocpahkdaaLwPureR
import Derived.Test.YtcggbkocpahkdaaLwPureC
namespace Go.Proofs.Ytcggbkocpahkdaa
open Go Go.Ex Go.ChangeShapes Go.WideShapes Go.ChangeAt Go.RowKit
theorem polarPureOwn : ownKnob Try.prog.godebug = none := by kernel_rfl
set_option maxRecDepth 100000 in
theorem polarPureLifted (os : Os) (started : os.Started) (H : Type) (enc : TypeId × Value → H) :
    ReturnsInHanded {} Try.checked os 14 .any (Rows.polarPureSpec.pre6 enc Try.prog Try.f14 Rows.polarPureRow.domain false) (Rows.polarPureSpec.post enc Try.prog Try.f14 false true false false) := by
  refine returnsInHanded_of_change (C := Try.checked) polarPureOwn started (by kernel_rfl) Try.func14
    (ChangeSpec.witness6 (enc := enc) (C := Try.checked) false ⟨#[], #[.agg #[.int .i64 0, .int .i64 0, .int .i64 0, .int .i64 0, .int .i64 0, .int .i64 0, .int .i64 0, .int .i64 0]], []⟩ 8 (by kernel_rfl) (by kernel_rfl) (by kernel_rfl) (by kernel_rfl)) ?_
  intro W base args ds gs before hval0 hW hcnd _
  have hval : ∀ (j : Nat) t v, Try.f14.params[j]? = some t → args[j]? = some v → Value.okWide Try.prog W .any base t v := hval0
  have hW' := hW
  obtain ⟨p, q, hA0, hV, rfl, hfz, hnd⟩ := hW
  have hA : DataW.TrodAll enc Try.prog W 0 (fun _ => true) true Try.f14.params.toList args.toList ds p := hA0
  rw [Try.params14] at hA hval
  obtain ⟨v0, d0, rfl, rfl, h0⟩ := trodAll_one hA
  obtain ⟨rfl, rfl⟩ := trodVars_none hV
  obtain ⟨c0, rfl, l0, rfl, s0⟩ := flat_agg (n := 9) (ks := [.i, .i, .i, .i, .i, .i, .i, .i]) (by kernel_rfl) (by kernel_rfl) (hval 0 133 _ rfl rfl) h0
  clear hA0 hval0
  simp only [List.append_nil] at hW'
  have hc := law_anyP (ways := pureWays) (G1 := pureG1) (G2 := pureG2) (X := pureX) (sm := smE) (n := 3000) smE_ok pureX_ok Try.fok14 pureWays_some polarPureRun (by kernel_rfl) (l := [(true, c0)]) ⟨rfl, l0, by simp, trivial⟩ W
  refine hc.mono fun e W' ⟨he, hw⟩ => ?_
  subst he
  exact ⟨_, rfl, post_of_below (pa := []) (pv := []) hW' (fun _ _ _ => trodAll_mk1 (shut_true Try.underlying4)) (fun sp _ => trodAll_mk1 (s0 _ _ _ _)) (fun _ _ => rfl) rfl hw (ok_one (by kernel_rfl) rfl (okWide_true Try.underlying4))⟩

theorem polarPureHolds : Rows.PolarPureSaid :=
  OpenClaim.holds_of_wide 14 Try.f14 rfl rfl rfl rfl rfl rfl rfl ⟨rfl, rfl, rfl, rfl, rfl⟩ rfl rfl rfl rfl rfl (by kernel_rfl) Try.func14 polarPureClosed
    (of_decide_eq_true (by kernel_rfl)) (by unfold Func.isWrapper; first | (rw [if_pos (by decide +kernel)]; kernel_rfl) | (rw [if_neg (by decide +kernel)]; exact ⟨rfl, rfl⟩))
    (fun os started H enc _ => polarPureLifted os started H enc)
#print axioms polarPureHolds
end Go.Proofs.Ytcggbkocpahkdaa
