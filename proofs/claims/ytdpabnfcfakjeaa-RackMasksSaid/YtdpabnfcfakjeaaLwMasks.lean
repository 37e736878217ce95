/- The law RackMasks answers true for every input, and leaves its arguments as they were. Conditions: none. -/
import Derived.Test.YtdpabnfcfakjeaaLwMkF
import Derived.Test.YtdpabnfcfakjeaaLwJab
import Derived.Test.YtdpabnfcfakjeaaLwCRackMasks
import Derived.Carry

namespace Go.Proofs.Ytdpabnfcfakjeaa
open Go Go.Ex Go.ChangeShapes Go.WideShapes Go.ChangeAt Go.RowKit
theorem rackMasksOwn : ownKnob Try.prog.godebug = none := by kernel_rfl
theorem rackMasksAll : (Try.f11.params.toList.all fun t => Try.prog.readableRec t && Nat.blt t Try.prog.types.size) = true := by kernel_rfl
theorem rackMasksSig : sigT Try.prog 12 Try.f11.params.toList = some lawMasksS := by kernel_rfl
theorem rackMasksFit : ∀ fds, FitL (sigS lawMasksS) fds → (∀ d ∈ fds, RngD d) → lawMasksC fds = true ∧ lawMasksR fds = [.bool true] := by
  intro fds hf hrng
  obtain ⟨ntb, ftb, ds0, rfl, gtb, hf1⟩ := hf.list
  obtain ⟨nu, ds1, rfl, hf2⟩ := hf1.int
  obtain ⟨de, ds2, rfl, hf3⟩ := hf2.int
  obtain ⟨den, ds3, rfl, hf4⟩ := hf3.int
  obtain ⟨nop, fop, ds4, rfl, gop, hf5⟩ := hf4.list
  obtain ⟨wd, ds5, rfl, hf6⟩ := hf5.int
  obtain ⟨nlo, flo, ds6, rfl, glo, hf7⟩ := hf6.list
  obtain ⟨nhi, fhi, ds7, rfl, ghi, hf8⟩ := hf7.list
  obtain ⟨nca, fca, ds8, rfl, gca, hf9⟩ := hf8.list
  obtain rfl := hf9.nil
  have hde : rngB de = true := by
    have := hrng (.int .i64 de) (by simp) de rfl
    simpa [rngB] using this
  exact ⟨by simp only [lawMasksC, hde, Bool.and_self], rfl⟩
set_option maxRecDepth 100000 in
theorem rackMasksLifted (os : Os) (started : os.Started) (H : Type) (enc : TypeId × Value → H) :
    ReturnsInHanded {} Try.checked os 11 .any (Rows.rackMasksSpec.pre6 enc Try.prog Try.f11 Rows.rackMasksRow.domain false) (Rows.rackMasksSpec.post enc Try.prog Try.f11 false true false false) := by
  refine returnsInHanded_of_change (C := Try.checked) rackMasksOwn started (by kernel_rfl) Try.func11
    (ChangeSpec.witness6 (enc := enc) (C := Try.checked) false ⟨#[], #[.agg #[.slice none 0 0, .int .i64 0, .int .i64 0], .agg #[.int .i64 0, .slice none 0 0], .agg #[.int .i64 0, .slice none 0 0, .slice none 0 0, .slice none 0 0]], []⟩ 8 (by kernel_rfl) (by kernel_rfl) (by kernel_rfl) (by kernel_rfl)) ?_
  intro W base args ds gs before hval0 hW hcnd _
  have hval : ∀ (j : Nat) t v, Try.f11.params[j]? = some t → args[j]? = some v → Value.okWide Try.prog W .any base t v := hval0
  have hW' := hW
  obtain ⟨p, q, hA0, hV, rfl, hfz, hnd⟩ := hW
  have hA : DataW.TrodAll enc Try.prog W 0 (fun _ => true) true Try.f11.params.toList args.toList ds p := hA0
  obtain ⟨rfl, rfl⟩ := trodVars_none hV
  have hds : ds.length = 3 := (trodAll_len hA).trans (by kernel_rfl)
  obtain ⟨d0, d1, d2, rfl⟩ : ∃ d0 d1 d2, ds = [d0, d1, d2] := by
    match ds, hds with
    | [d0, d1, d2], _ => exact ⟨d0, d1, d2, rfl⟩
  clear hA0 hval0
  simp only [List.append_nil] at hW'
  have hc := law_run smS_ok gsN_ok lawMasks_ok rackMasksFit rackMasksSig hA fun j t v ht hv => hval j t v (by rw [← Array.getElem?_toList]; exact ht) (by rw [← Array.getElem?_toList]; exact hv)
  rw [Array.toArray_toList] at hc
  have hlt : ∀ x ∈ p, x.block < W.heap.size := fun x hx => hW'.lt x hx
  refine hc.mono fun e W' ⟨he, hw⟩ => ?_
  subst he
  exact ⟨_, rfl, post_of_below (pa := p) (pv := []) hW' (fun _ _ _ => trodAll_mk1 (shut_trueR Try.underlying4)) (fun sp hsp => trodAll_stays clo1 rackMasksAll hA (fun x hx => hw.same (hlt x hx)) (fun x hx => hsp x hx)) (fun _ _ => rfl) (by simp) hw (ok_one (by kernel_rfl) rfl (okWide_trueR Try.underlying4))⟩

theorem rackMasksHolds : Rows.RackMasksSaid :=
  OpenClaim.holds_of_wide 11 Try.f11 rfl rfl rfl rfl rfl rfl rfl ⟨rfl, rfl, rfl, rfl, rfl⟩ rfl rfl rfl rfl rfl (by kernel_rfl) Try.func11 rackMasksClosed
    (of_decide_eq_true (by kernel_rfl)) (by unfold Func.isWrapper; first | (rw [if_pos (by decide +kernel)]; kernel_rfl) | (rw [if_neg (by decide +kernel)]; exact ⟨rfl, rfl⟩))
    (fun os started H enc _ => rackMasksLifted os started H enc)
#print axioms rackMasksHolds
end Go.Proofs.Ytdpabnfcfakjeaa

