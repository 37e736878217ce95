/- The law RackAlike answers true for every input, and leaves its arguments as they were. Conditions: none. -/
import Derived.Test.YtdpabnfcfakjeaaLwAl
import Derived.Test.YtdpabnfcfakjeaaLwJab
import Derived.Test.YtdpabnfcfakjeaaLwCRackAlike
import Derived.Carry

namespace Go.Proofs.Ytdpabnfcfakjeaa
open Go Go.Ex Go.ChangeShapes Go.WideShapes Go.ChangeAt Go.RowKit
theorem rackAlikeOwn : ownKnob Try.prog.godebug = none := by kernel_rfl
theorem rackAlikeAll : (Try.f10.params.toList.all fun t => Try.prog.readableRec t && Nat.blt t Try.prog.types.size) = true := by kernel_rfl
theorem rackAlikeSig : sigT Try.prog 12 Try.f10.params.toList = some lawAlikeS := by kernel_rfl
theorem rackAlikeFit : ∀ fds, FitL (sigS lawAlikeS) fds → (∀ d ∈ fds, RngD d) → lawAlikeC fds = true ∧ lawAlikeR fds = [.bool true] := by
  intro fds hf hrng
  obtain ⟨st, ds0, rfl, hf1⟩ := hf.int
  obtain ⟨pl, ds1, rfl, hf2⟩ := hf1.int
  obtain ⟨ho, ds2, rfl, hf3⟩ := hf2.int
  obtain ⟨ge, ds3, rfl, hf4⟩ := hf3.int
  obtain ⟨nfl, ffl, ds4, rfl, gfl, hf5⟩ := hf4.list
  obtain ⟨q, ds5, rfl, hf6⟩ := hf5.int
  obtain rfl := hf6.nil
  exact ⟨rfl, rfl⟩
set_option maxRecDepth 100000 in
theorem rackAlikeLifted (os : Os) (started : os.Started) (H : Type) (enc : TypeId × Value → H) :
    ReturnsInHanded {} Try.checked os 10 .any (Rows.rackAlikeSpec.pre6 enc Try.prog Try.f10 Rows.rackAlikeRow.domain false) (Rows.rackAlikeSpec.post enc Try.prog Try.f10 false true false false) := by
  refine returnsInHanded_of_change (C := Try.checked) rackAlikeOwn started (by kernel_rfl) Try.func10
    (ChangeSpec.witness6 (enc := enc) (C := Try.checked) false ⟨#[], #[.agg #[.int .i64 0, .int .i64 0, .int .i64 0, .int .i64 0], .slice none 0 0, .int .i64 0], []⟩ 8 (by kernel_rfl) (by kernel_rfl) (by kernel_rfl) (by kernel_rfl)) ?_
  intro W base args ds gs before hval0 hW hcnd _
  have hval : ∀ (j : Nat) t v, Try.f10.params[j]? = some t → args[j]? = some v → Value.okWide Try.prog W .any base t v := hval0
  have hW' := hW
  obtain ⟨p, q, hA0, hV, rfl, hfz, hnd⟩ := hW
  have hA : DataW.TrodAll enc Try.prog W 0 (fun _ => true) true Try.f10.params.toList args.toList ds p := hA0
  obtain ⟨rfl, rfl⟩ := trodVars_none hV
  have hds : ds.length = 3 := (trodAll_len hA).trans (by kernel_rfl)
  obtain ⟨d0, d1, d2, rfl⟩ : ∃ d0 d1 d2, ds = [d0, d1, d2] := by
    match ds, hds with
    | [d0, d1, d2], _ => exact ⟨d0, d1, d2, rfl⟩
  clear hA0 hval0
  simp only [List.append_nil] at hW'
  have hc := law_run smT_ok gsU_ok lawAlike_ok rackAlikeFit rackAlikeSig hA fun j t v ht hv => hval j t v (by rw [← Array.getElem?_toList]; exact ht) (by rw [← Array.getElem?_toList]; exact hv)
  rw [Array.toArray_toList] at hc
  have hlt : ∀ x ∈ p, x.block < W.heap.size := fun x hx => hW'.lt x hx
  refine hc.mono fun e W' ⟨he, hw⟩ => ?_
  subst he
  exact ⟨_, rfl, post_of_below (pa := p) (pv := []) hW' (fun _ _ _ => trodAll_mk1 (shut_trueR Try.underlying4)) (fun sp hsp => trodAll_stays clo1 rackAlikeAll hA (fun x hx => hw.same (hlt x hx)) (fun x hx => hsp x hx)) (fun _ _ => rfl) (by simp) hw (ok_one (by kernel_rfl) rfl (okWide_trueR Try.underlying4))⟩

theorem rackAlikeHolds : Rows.RackAlikeSaid :=
  OpenClaim.holds_of_wide 10 Try.f10 rfl rfl rfl rfl rfl rfl rfl ⟨rfl, rfl, rfl, rfl, rfl⟩ rfl rfl rfl rfl rfl (by kernel_rfl) Try.func10 rackAlikeClosed
    (of_decide_eq_true (by kernel_rfl)) (by unfold Func.isWrapper; first | (rw [if_pos (by decide +kernel)]; kernel_rfl) | (rw [if_neg (by decide +kernel)]; exact ⟨rfl, rfl⟩))
    (fun os started H enc _ => rackAlikeLifted os started H enc)
#print axioms rackAlikeHolds
end Go.Proofs.Ytdpabnfcfakjeaa

