/- The law RackSpreads answers true for every input, and leaves its arguments as they were. Conditions: none. -/
import Derived.Test.YtdpabnfcfakjeaaLwSpC
import Derived.Test.YtdpabnfcfakjeaaLwJa
import Derived.Test.YtdpabnfcfakjeaaLwCRackSpreads
import Derived.Carry

namespace Go.Proofs.Ytdpabnfcfakjeaa
open Go Go.Ex Go.ChangeShapes Go.WideShapes Go.ChangeAt Go.RowKit
theorem rackSpreadsOwn : ownKnob Try.prog.godebug = none := by kernel_rfl
theorem rackSpreadsRead : Try.prog.readableRec 22 = true := by kernel_rfl
theorem rackSpreadsSize : (22 : Nat) < Try.prog.types.size := of_decide_eq_true (by kernel_rfl)
theorem rackSpreadsCalls {W : World} {v : Value} (hv : LeafR W (.list [.int .i64]) v) : Calls Try.prog 3 #[v] W fun e w' => e = .returned (.bool true) ∧ Below W.heap.size W w' := by
  obtain ⟨d, hd, hr⟩ := hv
  have hd : FD.list [.int .i64] d.ln d.fn = d := hd
  rw [← hd] at hr
  have hs := smOk_of smF_ok gs3_ok lawSpreads_ok rfl [.one (.fz (.root 0 0) (.list [.int .i64] d.ln d.fn))] [] (resS (.one .bool) [.bool true]) [] rfl (fun x hx => by cases hx)
  have hden : denArgs η0 (memA W [v]) [.one (.fz (.root 0 0) (.list [.int .i64] d.ln d.fn))] = some [v] := by
    have h1 : (Sc.fz (.root 0 0) (.list [.int .i64] d.ln d.fn)).den η0 (memA W [v]) = some v := fz_memA (by rfl) hr
    simp only [denArgs, Sv.den, h1]
  obtain ⟨v', e1, e2⟩ := hs.2 (memA W [v]) [v] W (memA_zw W [v]) hden
  cases e1
  exact gives_calls Try.fok3 e2
set_option maxRecDepth 100000 in
theorem rackSpreadsLifted (os : Os) (started : os.Started) (H : Type) (enc : TypeId × Value → H) :
    ReturnsInHanded {} Try.checked os 3 .any (Rows.rackSpreadsSpec.pre6 enc Try.prog Try.f3 Rows.rackSpreadsRow.domain false) (Rows.rackSpreadsSpec.post enc Try.prog Try.f3 false true false false) := by
  refine returnsInHanded_of_change (C := Try.checked) rackSpreadsOwn started (by kernel_rfl) Try.func3
    (ChangeSpec.witness6 (enc := enc) (C := Try.checked) false ⟨#[], #[.slice none 0 0], []⟩ 8 (by kernel_rfl) (by kernel_rfl) (by kernel_rfl) (by kernel_rfl)) ?_
  intro W base args ds gs before hval0 hW hcnd _
  have hval : ∀ (j : Nat) t v, Try.f3.params[j]? = some t → args[j]? = some v → Value.okWide Try.prog W .any base t v := hval0
  have hW' := hW
  obtain ⟨p, q, hA0, hV, rfl, hfz, hnd⟩ := hW
  have hA : DataW.TrodAll enc Try.prog W 0 (fun _ => true) true Try.f3.params.toList args.toList ds p := hA0
  rw [Try.params3] at hA hval
  obtain ⟨v0, d0, rfl, rfl, h0⟩ := trodAll_one hA
  obtain ⟨rfl, rfl⟩ := trodVars_none hV
  have hv0 := hval 0 22 v0 rfl rfl
  clear hA0 hval0
  simp only [List.append_nil] at hW'
  have hc := rackSpreadsCalls (slice_leaf (n := 3) (s := .list [.int .i64]) Try.underlying22 (by kernel_rfl) hv0 h0)
  have hlt : ∀ x ∈ p, x.block < W.heap.size := fun x hx => hW'.lt x hx
  refine hc.mono fun e W' ⟨he, hw⟩ => ?_
  subst he
  exact ⟨_, rfl, post_of_below (pa := p) (pv := []) hW' (fun _ _ _ => trodAll_mk1 (shut_trueR Try.underlying4)) (fun sp hsp => trodAll_mk1 (WideElems.Trod_stays clo1 rackSpreadsRead rackSpreadsSize h0 (sp' := sp) (fun x hx => hw.same (hlt x hx)) (fun x hx => hsp x hx))) (fun _ _ => rfl) (by simp) hw (ok_one (by kernel_rfl) rfl (okWide_trueR Try.underlying4))⟩

theorem rackSpreadsHolds : Rows.RackSpreadsSaid :=
  OpenClaim.holds_of_wide 3 Try.f3 rfl rfl rfl rfl rfl rfl rfl ⟨rfl, rfl, rfl, rfl, rfl⟩ rfl rfl rfl rfl rfl (by kernel_rfl) Try.func3 rackSpreadsClosed
    (of_decide_eq_true (by kernel_rfl)) (by unfold Func.isWrapper; first | (rw [if_pos (by decide +kernel)]; kernel_rfl) | (rw [if_neg (by decide +kernel)]; exact ⟨rfl, rfl⟩))
    (fun os started H enc _ => rackSpreadsLifted os started H enc)
#print axioms rackSpreadsHolds
end Go.Proofs.Ytdpabnfcfakjeaa

