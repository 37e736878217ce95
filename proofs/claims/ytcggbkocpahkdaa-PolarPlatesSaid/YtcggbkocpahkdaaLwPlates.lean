/- The law PolarPlates answers true for every input, and leaves its arguments as they were. Conditions: none. -/
import Derived.Test.YtcggbkocpahkdaaLwPlatesR
import Derived.Test.YtcggbkocpahkdaaLwPlatesC
namespace Go.Proofs.Ytcggbkocpahkdaa
open Go Go.Ex Go.ChangeShapes Go.WideShapes Go.ChangeAt Go.RowKit
theorem polarPlatesOwn : ownKnob Try.prog.godebug = none := by kernel_rfl
set_option maxRecDepth 100000 in
theorem polarPlatesLifted (os : Os) (started : os.Started) (H : Type) (enc : TypeId × Value → H) :
    ReturnsInHanded {} Try.checked os 6 .any (Rows.polarPlatesSpec.pre6 enc Try.prog Try.f6 Rows.polarPlatesRow.domain false) (Rows.polarPlatesSpec.post enc Try.prog Try.f6 false true false false) := by
  refine returnsInHanded_of_change (C := Try.checked) polarPlatesOwn started (by kernel_rfl) Try.func6
    (ChangeSpec.witness6 (enc := enc) (C := Try.checked) false ⟨#[], #[.agg #[.int .i64 0, .int .i64 0, .int .i64 0], .agg #[.int .i64 0, .int .i64 0, .int .i64 0]], []⟩ 8 (by kernel_rfl) (by kernel_rfl) (by kernel_rfl) (by kernel_rfl)) ?_
  intro W base args ds gs before hval0 hW hcnd _
  have hval : ∀ (j : Nat) t v, Try.f6.params[j]? = some t → args[j]? = some v → Value.okWide Try.prog W .any base t v := hval0
  have hW' := hW
  obtain ⟨p, q, hA0, hV, rfl, hfz, hnd⟩ := hW
  have hA : DataW.TrodAll enc Try.prog W 0 (fun _ => true) true Try.f6.params.toList args.toList ds p := hA0
  rw [Try.params6] at hA hval
  obtain ⟨v0, v1, d0, d1, p0, p1, rfl, rfl, rfl, h0, h1⟩ := trodAll_two hA
  obtain ⟨rfl, rfl⟩ := trodVars_none hV
  obtain ⟨c0, rfl, l0, rfl, s0⟩ := flat_agg (n := 9) (ks := [.i, .i, .i]) (by kernel_rfl) (by kernel_rfl) (hval 0 77 _ rfl rfl) h0
  obtain ⟨c1, rfl, l1, rfl, s1⟩ := flat_agg (n := 9) (ks := [.i, .i, .i]) (by kernel_rfl) (by kernel_rfl) (hval 1 77 _ rfl rfl) h1
  clear hA0 hval0
  simp only [List.append_nil] at hW'
  have hc := law_any (C := mkC smD) (n := 3000) (okC smD_ok) Try.fok6 polarPlatesRun (by kernel_rfl) (l := [(true, c0), (true, c1)]) ⟨rfl, l0, by simp, ⟨rfl, l1, by simp, trivial⟩⟩ W
  refine hc.mono fun e W' ⟨he, hw⟩ => ?_
  subst he
  exact ⟨_, rfl, post_of_below (pa := []) (pv := []) hW' (fun _ _ _ => trodAll_mk1 (shut_true Try.underlying4)) (fun sp _ => trodAll_mk2 (s0 _ _ _ _) (s1 _ _ _ _)) (fun _ _ => rfl) rfl hw (ok_one (by kernel_rfl) rfl (okWide_true Try.underlying4))⟩

theorem polarPlatesHolds : Rows.PolarPlatesSaid :=
  OpenClaim.holds_of_wide 6 Try.f6 rfl rfl rfl rfl rfl rfl rfl ⟨rfl, rfl, rfl, rfl, rfl⟩ rfl rfl rfl rfl rfl (by kernel_rfl) Try.func6 polarPlatesClosed
    (of_decide_eq_true (by kernel_rfl)) (by unfold Func.isWrapper; first | (rw [if_pos (by decide +kernel)]; kernel_rfl) | (rw [if_neg (by decide +kernel)]; exact ⟨rfl, rfl⟩))
    (fun os started H enc _ => polarPlatesLifted os started H enc)
#print axioms polarPlatesHolds
end Go.Proofs.Ytcggbkocpahkdaa
