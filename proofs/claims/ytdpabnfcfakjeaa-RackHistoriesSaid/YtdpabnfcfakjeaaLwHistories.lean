/- The law RackHistories answers true for every input, and leaves its arguments as they were. Conditions: none. -/
import Derived.Test.YtdpabnfcfakjeaaLwHiPG
import Derived.Test.YtdpabnfcfakjeaaLwJab
import Derived.Test.YtdpabnfcfakjeaaLwCRackHistories
import Derived.Carry

namespace Go.Proofs.Ytdpabnfcfakjeaa
open Go Go.Ex Go.ChangeShapes Go.WideShapes Go.ChangeAt Go.RowKit
theorem rackHistoriesOwn : ownKnob Try.prog.godebug = none := by kernel_rfl
theorem rackHistoriesAll : (Try.f14.params.toList.all fun t => Try.prog.readableRec t && Nat.blt t Try.prog.types.size) = true := by kernel_rfl
theorem rackHistoriesSig : sigT Try.prog 12 Try.f14.params.toList = some lawHistoriesS := by kernel_rfl
theorem rackHistoriesFit : ∀ fds, FitL (sigS lawHistoriesS) fds → (∀ d ∈ fds, RngD d) → lawHistoriesC fds = true ∧ lawHistoriesR fds = [.bool true] := by
  intro fds hf hrng
  obtain ⟨nh, fh, ds0, rfl, gh, hf1⟩ := hf.list
  obtain ⟨p, ds1, rfl, hf2⟩ := hf1.str
  obtain ⟨q, ds2, rfl, hf3⟩ := hf2.str
  obtain rfl := hf3.nil
  exact ⟨rfl, rfl⟩
set_option maxRecDepth 100000 in
theorem rackHistoriesLifted (os : Os) (started : os.Started) (H : Type) (enc : TypeId × Value → H) :
    ReturnsInHanded {} Try.checked os 14 .any (Rows.rackHistoriesSpec.pre6 enc Try.prog Try.f14 Rows.rackHistoriesRow.domain false) (Rows.rackHistoriesSpec.post enc Try.prog Try.f14 false true false false) := by
  refine returnsInHanded_of_change (C := Try.checked) rackHistoriesOwn started (by kernel_rfl) Try.func14
    (ChangeSpec.witness6 (enc := enc) (C := Try.checked) false ⟨#[], #[.slice none 0 0, .string ⟨#[]⟩, .string ⟨#[]⟩], []⟩ 8 (by kernel_rfl) (by kernel_rfl) (by kernel_rfl) (by kernel_rfl)) ?_
  intro W base args ds gs before hval0 hW hcnd _
  have hval : ∀ (j : Nat) t v, Try.f14.params[j]? = some t → args[j]? = some v → Value.okWide Try.prog W .any base t v := hval0
  have hW' := hW
  obtain ⟨p, q, hA0, hV, rfl, hfz, hnd⟩ := hW
  have hA : DataW.TrodAll enc Try.prog W 0 (fun _ => true) true Try.f14.params.toList args.toList ds p := hA0
  obtain ⟨rfl, rfl⟩ := trodVars_none hV
  have hds : ds.length = 3 := (trodAll_len hA).trans (by kernel_rfl)
  obtain ⟨d0, d1, d2, rfl⟩ : ∃ d0 d1 d2, ds = [d0, d1, d2] := by
    match ds, hds with
    | [d0, d1, d2], _ => exact ⟨d0, d1, d2, rfl⟩
  clear hA0 hval0
  simp only [List.append_nil] at hW'
  have hc := law_run smHd_ok gsI_ok lawHistories_ok rackHistoriesFit rackHistoriesSig hA fun j t v ht hv => hval j t v (by rw [← Array.getElem?_toList]; exact ht) (by rw [← Array.getElem?_toList]; exact hv)
  rw [Array.toArray_toList] at hc
  have hlt : ∀ x ∈ p, x.block < W.heap.size := fun x hx => hW'.lt x hx
  refine hc.mono fun e W' ⟨he, hw⟩ => ?_
  subst he
  exact ⟨_, rfl, post_of_below (pa := p) (pv := []) hW' (fun _ _ _ => trodAll_mk1 (shut_trueR Try.underlying4)) (fun sp hsp => trodAll_stays clo1 rackHistoriesAll hA (fun x hx => hw.same (hlt x hx)) (fun x hx => hsp x hx)) (fun _ _ => rfl) (by simp) hw (ok_one (by kernel_rfl) rfl (okWide_trueR Try.underlying4))⟩

theorem rackHistoriesHolds : Rows.RackHistoriesSaid :=
  OpenClaim.holds_of_wide 14 Try.f14 rfl rfl rfl rfl rfl rfl rfl ⟨rfl, rfl, rfl, rfl, rfl⟩ rfl rfl rfl rfl rfl (by kernel_rfl) Try.func14 rackHistoriesClosed
    (of_decide_eq_true (by kernel_rfl)) (by unfold Func.isWrapper; first | (rw [if_pos (by decide +kernel)]; kernel_rfl) | (rw [if_neg (by decide +kernel)]; exact ⟨rfl, rfl⟩))
    (fun os started H enc _ => rackHistoriesLifted os started H enc)
#print axioms rackHistoriesHolds
end Go.Proofs.Ytdpabnfcfakjeaa

