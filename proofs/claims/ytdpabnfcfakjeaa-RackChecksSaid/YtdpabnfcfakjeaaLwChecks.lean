/- The law RackChecks answers true for every input, and leaves its arguments as they were. Conditions: none. -/
import Derived.Test.YtdpabnfcfakjeaaLwCk
import Derived.Test.YtdpabnfcfakjeaaLwJb
import Derived.Test.YtdpabnfcfakjeaaLwCRackChecks
import Derived.Carry

namespace Go.Proofs.Ytdpabnfcfakjeaa
open Go Go.Ex Go.ChangeShapes Go.WideShapes Go.ChangeAt Go.RowKit
theorem rackChecksOwn : ownKnob Try.prog.godebug = none := by kernel_rfl
theorem rackChecksRead : Try.prog.readableRec 48 = true := by kernel_rfl
theorem rackChecksSize : (48 : Nat) < Try.prog.types.size := of_decide_eq_true (by kernel_rfl)
theorem rackChecksCalls {W : World} {v : Value} (hv : LeafR W (.list [.list [.int .i64]]) v) (a b c d p h : Int) : Calls Try.prog 7 #[.agg #[.int .i64 a, .int .i64 b, .int .i64 c, .int .i64 d], v, .agg #[.int .i64 p, .int .i64 h]] W fun e w' => e = .returned (.bool true) ∧ Below W.heap.size W w' := by
  obtain ⟨x, hd, hr⟩ := hv
  have hd : FD.list [.list [.int .i64]] x.ln x.fn = x := hd
  rw [← hd] at hr
  have hs := smOk_of smH_ok gs4_ok lawChecks_ok rfl [.agg [.int .i64 (.tm a), .int .i64 (.tm b), .int .i64 (.tm c), .int .i64 (.tm d)], .one (.fz (.root 0 0) (.list [.list [.int .i64]] x.ln x.fn)), .agg [.int .i64 (.tm p), .int .i64 (.tm h)]] [] (resS (.one .bool) [.bool true]) [] rfl (fun x hx => by cases hx)
  have hden : denArgs η0 (memA W [v]) [.agg [.int .i64 (.tm a), .int .i64 (.tm b), .int .i64 (.tm c), .int .i64 (.tm d)], .one (.fz (.root 0 0) (.list [.list [.int .i64]] x.ln x.fn)), .agg [.int .i64 (.tm p), .int .i64 (.tm h)]] = some [.agg #[.int .i64 a, .int .i64 b, .int .i64 c, .int .i64 d], v, .agg #[.int .i64 p, .int .i64 h]] := by
    have h1 : (Sc.fz (.root 0 0) (.list [.list [.int .i64]] x.ln x.fn)).den η0 (memA W [v]) = some v := fz_memA (by rfl) hr
    have h2 : (Sv.one (Sc.fz (.root 0 0) (.list [.list [.int .i64]] x.ln x.fn))).den η0 (memA W [v]) = some v := h1
    have h3 : (Sv.agg [.int .i64 (.tm a), .int .i64 (.tm b), .int .i64 (.tm c), .int .i64 (.tm d)]).den η0 (memA W [v]) = some (.agg #[.int .i64 a, .int .i64 b, .int .i64 c, .int .i64 d]) := rfl
    have h4 : (Sv.agg [.int .i64 (.tm p), .int .i64 (.tm h)]).den η0 (memA W [v]) = some (.agg #[.int .i64 p, .int .i64 h]) := rfl
    simp only [denArgs, h2, h3, h4]
  obtain ⟨v', e1, e2⟩ := hs.2 (memA W [v]) _ W (memA_zw W [v]) hden
  cases e1
  exact gives_calls Try.fok7 e2
set_option maxRecDepth 100000 in
theorem rackChecksLifted (os : Os) (started : os.Started) (H : Type) (enc : TypeId × Value → H) :
    ReturnsInHanded {} Try.checked os 7 .any (Rows.rackChecksSpec.pre6 enc Try.prog Try.f7 Rows.rackChecksRow.domain false) (Rows.rackChecksSpec.post enc Try.prog Try.f7 false true false false) := by
  refine returnsInHanded_of_change (C := Try.checked) rackChecksOwn started (by kernel_rfl) Try.func7
    (ChangeSpec.witness6 (enc := enc) (C := Try.checked) false ⟨#[], #[.agg #[.int .i64 0, .int .i64 0, .int .i64 0, .int .i64 0], .slice none 0 0, .agg #[.int .i64 0, .int .i64 0]], []⟩ 8 (by kernel_rfl) (by kernel_rfl) (by kernel_rfl) (by kernel_rfl)) ?_
  intro W base args ds gs before hval0 hW hcnd _
  have hval : ∀ (j : Nat) t v, Try.f7.params[j]? = some t → args[j]? = some v → Value.okWide Try.prog W .any base t v := hval0
  have hW' := hW
  obtain ⟨p, q, hA0, hV, rfl, hfz, hnd⟩ := hW
  have hA : DataW.TrodAll enc Try.prog W 0 (fun _ => true) true Try.f7.params.toList args.toList ds p := hA0
  rw [Try.params7] at hA hval
  obtain ⟨v0, v1, v2, d0, d1, d2, p0, p1, p2, rfl, rfl, rfl, h0, h1, h2⟩ := trodAll_three hA
  obtain ⟨rfl, rfl⟩ := trodVars_none hV
  obtain ⟨c0, rfl, l0, rfl, s0⟩ := flat_agg (n := 9) (ks := [.i, .i, .i, .i]) (by kernel_rfl) (by kernel_rfl) (hval 0 47 _ rfl rfl) h0
  have hv1 := hval 1 48 v1 rfl rfl
  obtain ⟨c2, rfl, l2, rfl, s2⟩ := flat_agg (n := 9) (ks := [.i, .i]) (by kernel_rfl) (by kernel_rfl) (hval 2 64 _ rfl rfl) h2
  clear hA0 hval0
  simp only [List.append_nil, List.nil_append] at hW'
  obtain ⟨a, b, c, d, rfl⟩ := leafs4 l0
  obtain ⟨y, z, rfl⟩ := leafs2 l2
  have hc := rackChecksCalls (slice_leaf (n := 4) (s := .list [.list [.int .i64]]) Try.underlying48 (by kernel_rfl) hv1 h1) a b c d y z
  have hlt : ∀ x ∈ p1, x.block < W.heap.size := fun x hx => hW'.lt x hx
  refine hc.mono fun e W' ⟨he, hw⟩ => ?_
  subst he
  exact ⟨_, rfl, post_of_below (pa := p1) (pv := []) hW' (fun _ _ _ => trodAll_mk1 (shut_trueR Try.underlying4)) (fun sp hsp => by
    have := trodAll_mk3 (s0 W' 0 sp true) (WideElems.Trod_stays clo1 rackChecksRead rackChecksSize h1 (sp' := sp) (fun x hx => hw.same (hlt x hx)) (fun x hx => hsp x hx)) (s2 W' 0 sp true)
    simp only [List.append_nil, List.nil_append] at this
    exact this) (fun _ _ => rfl) (by simp) hw (ok_one (by kernel_rfl) rfl (okWide_trueR Try.underlying4))⟩

theorem rackChecksHolds : Rows.RackChecksSaid :=
  OpenClaim.holds_of_wide 7 Try.f7 rfl rfl rfl rfl rfl rfl rfl ⟨rfl, rfl, rfl, rfl, rfl⟩ rfl rfl rfl rfl rfl (by kernel_rfl) Try.func7 rackChecksClosed
    (of_decide_eq_true (by kernel_rfl)) (by unfold Func.isWrapper; first | (rw [if_pos (by decide +kernel)]; kernel_rfl) | (rw [if_neg (by decide +kernel)]; exact ⟨rfl, rfl⟩))
    (fun os started H enc _ => rackChecksLifted os started H enc)
#print axioms rackChecksHolds
end Go.Proofs.Ytdpabnfcfakjeaa

