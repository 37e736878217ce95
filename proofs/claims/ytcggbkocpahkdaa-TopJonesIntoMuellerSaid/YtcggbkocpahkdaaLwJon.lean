/- The law TopJonesIntoMueller answers true for every input, and leaves its arguments as they were. Conditions: none. -/
import Derived.Test.YtcggbkocpahkdaaLwJonM
import Derived.Test.YtcggbkocpahkdaaLwJonC
import Derived.Carry
namespace Go.Proofs.Ytcggbkocpahkdaa
open Go Go.Ex Go.ChangeShapes Go.WideShapes Go.ChangeAt Go.RowKit
theorem topJonesIntoMuellerOwn : ownKnob Try.prog.godebug = none := by kernel_rfl
theorem jonLaid : laidOutB Try.prog = true := by kernel_rfl
theorem jonRead : Try.prog.readableRec 117 = true := by kernel_rfl
theorem jonRow : (117 : Nat) < Try.prog.types.size := of_decide_eq_true (by kernel_rfl)
set_option maxRecDepth 100000 in
theorem topJonesIntoMuellerLifted (os : Os) (started : os.Started) (H : Type) (enc : TypeId × Value → H) :
    ReturnsInHanded {} Try.checked os 12 .any (Rows.topJonesIntoMuellerSpec.pre6 enc Try.prog Try.f12 Rows.topJonesIntoMuellerRow.domain false) (Rows.topJonesIntoMuellerSpec.post enc Try.prog Try.f12 false true false false) := by
  refine returnsInHanded_of_change (C := Try.checked) topJonesIntoMuellerOwn started (by kernel_rfl) Try.func12
    (ChangeSpec.witness6 (enc := enc) (C := Try.checked) false ⟨#[], #[.slice none 0 0, .agg #[.int .i64 0, .int .i64 0, .int .i64 0, .int .i64 0]], []⟩ 8 (by kernel_rfl) (by kernel_rfl) (by kernel_rfl) (by kernel_rfl)) ?_
  intro W base args ds gs before hval0 hW hcnd _
  have hval : ∀ (j : Nat) t v, Try.f12.params[j]? = some t → args[j]? = some v → Value.okWide Try.prog W .any base t v := hval0
  have hW' := hW
  obtain ⟨p, q, hA0, hV, rfl, hfz, hnd⟩ := hW
  have hA : DataW.TrodAll enc Try.prog W 0 (fun _ => true) true Try.f12.params.toList args.toList ds p := hA0
  rw [Try.params12] at hA hval
  obtain ⟨v0, v1, d0, d1, p0, p1, rfl, rfl, rfl, h0, h1⟩ := trodAll_two hA
  obtain ⟨rfl, rfl⟩ := trodVars_none hV
  obtain ⟨c1, rfl, l1, rfl, s1⟩ := flat_agg (n := 9) (ks := [.i, .i, .i, .i]) (by kernel_rfl) (by kernel_rfl) (hval 1 55 _ rfl rfl) h1
  have hv0 := hval 0 117 v0 rfl rfl
  clear hA0 hval0
  simp only [List.append_nil] at hW'
  have hc : Calls Try.prog 12 #[v0, .agg c1.toArray] W fun e w' => e = .returned (.bool true) ∧ Below W.heap.size W w' := by
    rcases flat_slice (n := 9) (ks := [.i, .i, .i, .i, .i, .i]) Try.underlying117 (by kernel_rfl) (by kernel_rfl) hv0 h0 with rfl | ⟨B, off, len, cap, c, e', fz, cs, rfl, hcap, hlc, hB, hcs, hcell⟩
    · exact law12_nil l1 W
    · by_cases hn : len ≤ 3
      · rw [repK6] at hcs
        exact law12_few hn hcs l1 hcap hB hcell
      · exact law12_many (by omega) l1 hlc hcap hB
  have hlt : ∀ x ∈ p0, x.block < W.heap.size := fun x hx => hW'.lt x hx
  refine hc.mono fun e W' ⟨he, hw⟩ => ?_
  subst he
  exact ⟨_, rfl, post_of_below (pa := p0) (pv := []) hW' (fun _ _ _ => trodAll_mk1 (shut_true Try.underlying4)) (fun sp hsp => by
    have := trodAll_mk2 (WideElems.Trod_stays jonLaid jonRead jonRow h0 (sp' := sp) (fun x hx => hw.same (hlt x hx)) (fun x hx => hsp x hx)) (s1 W' 0 sp true)
    rw [List.append_nil] at this
    exact this) (fun _ _ => rfl) (by simp) hw (ok_one (by kernel_rfl) rfl (okWide_true Try.underlying4))⟩

theorem topJonesIntoMuellerHolds : Rows.TopJonesIntoMuellerSaid :=
  OpenClaim.holds_of_wide 12 Try.f12 rfl rfl rfl rfl rfl rfl rfl ⟨rfl, rfl, rfl, rfl, rfl⟩ rfl rfl rfl rfl rfl (by kernel_rfl) Try.func12 topJonesIntoMuellerClosed
    (of_decide_eq_true (by kernel_rfl)) (by unfold Func.isWrapper; first | (rw [if_pos (by decide +kernel)]; kernel_rfl) | (rw [if_neg (by decide +kernel)]; exact ⟨rfl, rfl⟩))
    (fun os started H enc _ => topJonesIntoMuellerLifted os started H enc)
#print axioms topJonesIntoMuellerHolds
end Go.Proofs.Ytcggbkocpahkdaa
