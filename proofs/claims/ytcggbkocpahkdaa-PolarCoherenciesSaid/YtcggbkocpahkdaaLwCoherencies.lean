/- The law PolarCoherencies answers true for every input, and leaves its arguments as they were. Conditions: none. -/
import Derived.Test.YtcggbkocpahkdaaLwCoherenciesR
import Derived.Test.YtcggbkocpahkdaaLwCoherenciesC
namespace Go.Proofs.Ytcggbkocpahkdaa
open Go Go.Ex Go.ChangeShapes Go.WideShapes Go.ChangeAt Go.RowKit
theorem polarCoherenciesOwn : ownKnob Try.prog.godebug = none := by kernel_rfl
set_option maxRecDepth 100000 in
theorem polarCoherenciesLifted (os : Os) (started : os.Started) (H : Type) (enc : TypeId × Value → H) :
    ReturnsInHanded {} Try.checked os 10 .any (Rows.polarCoherenciesSpec.pre6 enc Try.prog Try.f10 Rows.polarCoherenciesRow.domain false) (Rows.polarCoherenciesSpec.post enc Try.prog Try.f10 false true false false) := by
  refine returnsInHanded_of_change (C := Try.checked) polarCoherenciesOwn started (by kernel_rfl) Try.func10
    (ChangeSpec.witness6 (enc := enc) (C := Try.checked) false ⟨#[], #[.agg #[.int .i64 0, .int .i64 0, .int .i64 0, .int .i64 0, .int .i64 0, .int .i64 0, .int .i64 0, .int .i64 0, .int .i64 0, .int .i64 0, .int .i64 0, .int .i64 0, .int .i64 0, .int .i64 0, .int .i64 0, .int .i64 0]], []⟩ 8 (by kernel_rfl) (by kernel_rfl) (by kernel_rfl) (by kernel_rfl)) ?_
  intro W base args ds gs before hval0 hW hcnd _
  have hval : ∀ (j : Nat) t v, Try.f10.params[j]? = some t → args[j]? = some v → Value.okWide Try.prog W .any base t v := hval0
  have hW' := hW
  obtain ⟨p, q, hA0, hV, rfl, hfz, hnd⟩ := hW
  have hA : DataW.TrodAll enc Try.prog W 0 (fun _ => true) true Try.f10.params.toList args.toList ds p := hA0
  rw [Try.params10] at hA hval
  obtain ⟨v0, d0, rfl, rfl, h0⟩ := trodAll_one hA
  obtain ⟨rfl, rfl⟩ := trodVars_none hV
  obtain ⟨c0, rfl, l0, rfl, s0⟩ := flat_agg (n := 9) (ks := [.i, .i, .i, .i, .i, .i, .i, .i, .i, .i, .i, .i, .i, .i, .i, .i]) (by kernel_rfl) (by kernel_rfl) (hval 0 23 _ rfl rfl) h0
  clear hA0 hval0
  simp only [List.append_nil] at hW'
  have hc := law_anyG (G := cohG) (X := cohX) (sm := smE) (n := 3000) smE_ok cohX_ok Try.fok10 polarCoherenciesRun (by kernel_rfl) (l := [(true, c0)]) ⟨rfl, l0, by simp, trivial⟩ W
  refine hc.mono fun e W' ⟨he, hw⟩ => ?_
  subst he
  exact ⟨_, rfl, post_of_below (pa := []) (pv := []) hW' (fun _ _ _ => trodAll_mk1 (shut_true Try.underlying4)) (fun sp _ => trodAll_mk1 (s0 _ _ _ _)) (fun _ _ => rfl) rfl hw (ok_one (by kernel_rfl) rfl (okWide_true Try.underlying4))⟩

theorem polarCoherenciesHolds : Rows.PolarCoherenciesSaid :=
  OpenClaim.holds_of_wide 10 Try.f10 rfl rfl rfl rfl rfl rfl rfl ⟨rfl, rfl, rfl, rfl, rfl⟩ rfl rfl rfl rfl rfl (by kernel_rfl) Try.func10 polarCoherenciesClosed
    (of_decide_eq_true (by kernel_rfl)) (by unfold Func.isWrapper; first | (rw [if_pos (by decide +kernel)]; kernel_rfl) | (rw [if_neg (by decide +kernel)]; exact ⟨rfl, rfl⟩))
    (fun os started H enc _ => polarCoherenciesLifted os started H enc)
#print axioms polarCoherenciesHolds
end Go.Proofs.Ytcggbkocpahkdaa
