/- The law RackWishes answers true for every input, and leaves its arguments as they were. Conditions: none. -/
import Derived.Test.YtdpabnfcfakjeaaLwTh
import Derived.Test.YtdpabnfcfakjeaaLwJab
import Derived.Test.YtdpabnfcfakjeaaLwCRackWishes
import Derived.Carry

namespace Go.Proofs.Ytdpabnfcfakjeaa
open Go Go.Ex Go.ChangeShapes Go.WideShapes Go.ChangeAt Go.RowKit
theorem rackWishesOwn : ownKnob Try.prog.godebug = none := by kernel_rfl
theorem rackWishesAll : (Try.f6.params.toList.all fun t => Try.prog.readableRec t && Nat.blt t Try.prog.types.size) = true := by kernel_rfl
theorem rackWishesSig : sigT Try.prog 12 Try.f6.params.toList = some lawWishesS := by kernel_rfl
theorem rackWishesFit : ∀ fds, FitL (sigS lawWishesS) fds → (∀ d ∈ fds, RngD d) → lawWishesC fds = true ∧ lawWishesR fds = [.bool true] := by
  intro fds hf hrng
  obtain ⟨st, ds0, rfl, hf1⟩ := hf.int
  obtain ⟨pl, ds1, rfl, hf2⟩ := hf1.int
  obtain ⟨ho, ds2, rfl, hf3⟩ := hf2.int
  obtain ⟨ge, ds3, rfl, hf4⟩ := hf3.int
  obtain ⟨nfl, ffl, ds4, rfl, gfl, hf5⟩ := hf4.list
  obtain ⟨p, ds5, rfl, hf6⟩ := hf5.int
  obtain ⟨h, ds6, rfl, hf7⟩ := hf6.int
  obtain ⟨th, ds7, rfl, hf8⟩ := hf7.int
  obtain rfl := hf8.nil
  exact ⟨rfl, rfl⟩
set_option maxRecDepth 100000 in
theorem rackWishesLifted (os : Os) (started : os.Started) (H : Type) (enc : TypeId × Value → H) :
    ReturnsInHanded {} Try.checked os 6 .any (Rows.rackWishesSpec.pre6 enc Try.prog Try.f6 Rows.rackWishesRow.domain false) (Rows.rackWishesSpec.post enc Try.prog Try.f6 false true false false) := by
  refine returnsInHanded_of_change (C := Try.checked) rackWishesOwn started (by kernel_rfl) Try.func6
    (ChangeSpec.witness6 (enc := enc) (C := Try.checked) false ⟨#[], #[.agg #[.int .i64 0, .int .i64 0, .int .i64 0, .int .i64 0], .slice none 0 0, .agg #[.int .i64 0, .int .i64 0, .int .i64 0]], []⟩ 8 (by kernel_rfl) (by kernel_rfl) (by kernel_rfl) (by kernel_rfl)) ?_
  intro W base args ds gs before hval0 hW hcnd _
  have hval : ∀ (j : Nat) t v, Try.f6.params[j]? = some t → args[j]? = some v → Value.okWide Try.prog W .any base t v := hval0
  have hW' := hW
  obtain ⟨p, q, hA0, hV, rfl, hfz, hnd⟩ := hW
  have hA : DataW.TrodAll enc Try.prog W 0 (fun _ => true) true Try.f6.params.toList args.toList ds p := hA0
  obtain ⟨rfl, rfl⟩ := trodVars_none hV
  have hds : ds.length = 3 := (trodAll_len hA).trans (by kernel_rfl)
  obtain ⟨d0, d1, d2, rfl⟩ : ∃ d0 d1 d2, ds = [d0, d1, d2] := by
    match ds, hds with
    | [d0, d1, d2], _ => exact ⟨d0, d1, d2, rfl⟩
  clear hA0 hval0
  simp only [List.append_nil] at hW'
  have hc := law_run smY_ok gsW_ok lawWishes_ok rackWishesFit rackWishesSig hA fun j t v ht hv => hval j t v (by rw [← Array.getElem?_toList]; exact ht) (by rw [← Array.getElem?_toList]; exact hv)
  rw [Array.toArray_toList] at hc
  have hlt : ∀ x ∈ p, x.block < W.heap.size := fun x hx => hW'.lt x hx
  refine hc.mono fun e W' ⟨he, hw⟩ => ?_
  subst he
  exact ⟨_, rfl, post_of_below (pa := p) (pv := []) hW' (fun _ _ _ => trodAll_mk1 (shut_trueR Try.underlying4)) (fun sp hsp => trodAll_stays clo1 rackWishesAll hA (fun x hx => hw.same (hlt x hx)) (fun x hx => hsp x hx)) (fun _ _ => rfl) (by simp) hw (ok_one (by kernel_rfl) rfl (okWide_trueR Try.underlying4))⟩

theorem rackWishesHolds : Rows.RackWishesSaid :=
  OpenClaim.holds_of_wide 6 Try.f6 rfl rfl rfl rfl rfl rfl rfl ⟨rfl, rfl, rfl, rfl, rfl⟩ rfl rfl rfl rfl rfl (by kernel_rfl) Try.func6 rackWishesClosed
    (of_decide_eq_true (by kernel_rfl)) (by unfold Func.isWrapper; first | (rw [if_pos (by decide +kernel)]; kernel_rfl) | (rw [if_neg (by decide +kernel)]; exact ⟨rfl, rfl⟩))
    (fun os started H enc _ => rackWishesLifted os started H enc)
#print axioms rackWishesHolds
end Go.Proofs.Ytdpabnfcfakjeaa

