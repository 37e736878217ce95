/- The law PolarPassive answers true for every input, and leaves its arguments as they were. Conditions: none. -/
import Derived.Test.YtcggbkocpahkdaaLwPassiveR
import Derived.Test.YtcggbkocpahkdaaLwPassiveC
namespace Go.Proofs.Ytcggbkocpahkdaa
open Go Go.Ex Go.ChangeShapes Go.WideShapes Go.ChangeAt Go.RowKit
theorem polarPassiveOwn : ownKnob Try.prog.godebug = none := by kernel_rfl
set_option maxRecDepth 100000 in
theorem polarPassiveLifted (os : Os) (started : os.Started) (H : Type) (enc : TypeId × Value → H) :
    ReturnsInHanded {} Try.checked os 11 .any (Rows.polarPassiveSpec.pre6 enc Try.prog Try.f11 Rows.polarPassiveRow.domain false) (Rows.polarPassiveSpec.post enc Try.prog Try.f11 false true false false) := by
  refine returnsInHanded_of_change (C := Try.checked) polarPassiveOwn started (by kernel_rfl) Try.func11
    (ChangeSpec.witness6 (enc := enc) (C := Try.checked) false ⟨#[], #[.agg #[.int .i64 0, .int .i64 0, .int .i64 0, .int .i64 0, .int .i64 0, .int .i64 0, .int .i64 0, .int .i64 0, .int .i64 0, .int .i64 0, .int .i64 0, .int .i64 0, .int .i64 0, .int .i64 0, .int .i64 0, .int .i64 0], .int .i64 0, .agg #[.int .i64 0, .int .i64 0, .int .i64 0, .int .i64 0]], []⟩ 8 (by kernel_rfl) (by kernel_rfl) (by kernel_rfl) (by kernel_rfl)) ?_
  intro W base args ds gs before hval0 hW hcnd _
  have hval : ∀ (j : Nat) t v, Try.f11.params[j]? = some t → args[j]? = some v → Value.okWide Try.prog W .any base t v := hval0
  have hW' := hW
  obtain ⟨p, q, hA0, hV, rfl, hfz, hnd⟩ := hW
  have hA : DataW.TrodAll enc Try.prog W 0 (fun _ => true) true Try.f11.params.toList args.toList ds p := hA0
  rw [Try.params11] at hA hval
  obtain ⟨v0, v1, v2, d0, d1, d2, p0, p1, p2, rfl, rfl, rfl, h0, h1, h2⟩ := trodAll_three hA
  obtain ⟨rfl, rfl⟩ := trodVars_none hV
  obtain ⟨c0, rfl, l0, rfl, s0⟩ := flat_agg (n := 9) (ks := [.i, .i, .i, .i, .i, .i, .i, .i, .i, .i, .i, .i, .i, .i, .i, .i]) (by kernel_rfl) (by kernel_rfl) (hval 0 23 _ rfl rfl) h0
  obtain ⟨l1, rfl, s1⟩ := flat_int Try.underlying3 (hval 1 3 _ rfl rfl) h1
  obtain ⟨c2, rfl, l2, rfl, s2⟩ := flat_agg (n := 9) (ks := [.i, .i, .i, .i]) (by kernel_rfl) (by kernel_rfl) (hval 2 56 _ rfl rfl) h2
  clear hA0 hval0
  simp only [List.append_nil] at hW'
  have hc := law_anyB (C := mkC smE) (n := 3000) (okC smE_ok) Try.fok11 passFin_ok polarPassiveRun (by kernel_rfl) (l := [(true, c0), (false, [v1]), (true, c2)]) ⟨rfl, l0, by simp, ⟨rfl, l1, by simp, ⟨rfl, l2, by simp, trivial⟩⟩⟩ W
  refine hc.mono fun e W' ⟨he, hw⟩ => ?_
  subst he
  exact ⟨_, rfl, post_of_below (pa := []) (pv := []) hW' (fun _ _ _ => trodAll_mk1 (shut_true Try.underlying4)) (fun sp _ => trodAll_mk3 (s0 _ _ _ _) (s1 _ _ _ _) (s2 _ _ _ _)) (fun _ _ => rfl) rfl hw (ok_one (by kernel_rfl) rfl (okWide_true Try.underlying4))⟩

theorem polarPassiveHolds : Rows.PolarPassiveSaid :=
  OpenClaim.holds_of_wide 11 Try.f11 rfl rfl rfl rfl rfl rfl rfl ⟨rfl, rfl, rfl, rfl, rfl⟩ rfl rfl rfl rfl rfl (by kernel_rfl) Try.func11 polarPassiveClosed
    (of_decide_eq_true (by kernel_rfl)) (by unfold Func.isWrapper; first | (rw [if_pos (by decide +kernel)]; kernel_rfl) | (rw [if_neg (by decide +kernel)]; exact ⟨rfl, rfl⟩))
    (fun os started H enc _ => polarPassiveLifted os started H enc)
#print axioms polarPassiveHolds
end Go.Proofs.Ytcggbkocpahkdaa
