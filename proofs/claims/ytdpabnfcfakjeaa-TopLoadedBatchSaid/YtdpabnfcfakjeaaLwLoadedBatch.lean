/- The law TopLoadedBatch answers true for every input, and leaves its arguments as they were. Conditions: none. -/
import Derived.Test.YtdpabnfcfakjeaaLwTlN
import Derived.Test.YtdpabnfcfakjeaaLwJab
import Derived.Test.YtdpabnfcfakjeaaLwCTopLoadedBatch
import Derived.Carry
namespace Go.Proofs.Ytdpabnfcfakjeaa
open Go Go.Ex Go.ChangeShapes Go.WideShapes Go.ChangeAt Go.RowKit
theorem topLoadedBatchOwn:ownKnob Try.prog.godebug=none:=by kernel_rfl
theorem topLoadedBatchAll:(Try.f17.params.toList.all fun t=>Try.prog.readableRec t&&Nat.blt t Try.prog.types.size)=true:=by kernel_rfl
theorem topLoadedBatchSig:sigT Try.prog 12 Try.f17.params.toList=some lawLoadedS:=by kernel_rfl
theorem topLoadedBatchFit : ∀ fds,FitL (sigS lawLoadedS) fds->(∀ d∈fds,RngD d)->lawLoadedC fds=true/\lawLoadedR fds=[.bool true]:=by
 intro fds hf hrng;obtain ⟨nps,fps,ds0,rfl,gps,hf1⟩:=hf.list;obtain ⟨pc,ds1,rfl,hf2⟩:=hf1.int;obtain ⟨q,ds2,rfl,hf3⟩:=hf2.str;obtain rfl:=hf3.nil;exact ⟨rfl,rfl⟩
set_option maxRecDepth 100000 in
theorem topLoadedBatchLifted (os:Os)(started:os.Started)(H:Type)(enc:TypeId × Value->H):
  ReturnsInHanded {} Try.checked os 17 .any (Rows.topLoadedBatchSpec.pre6 enc Try.prog Try.f17 Rows.topLoadedBatchRow.domain false) (Rows.topLoadedBatchSpec.post enc Try.prog Try.f17 false true false false):=by
 refine returnsInHanded_of_change (C:=Try.checked) topLoadedBatchOwn started (by kernel_rfl) Try.func17
  (ChangeSpec.witness6 (enc:=enc) (C:=Try.checked) false ⟨#[],#[.agg #[.slice none 0 0,.int .i64 0],.string ⟨#[]⟩],[]⟩ 8 (by kernel_rfl) (by kernel_rfl) (by kernel_rfl) (by kernel_rfl)) ?_
 intro W base args ds gs before hval0 hW hcnd _
 have hval : ∀ (j:Nat) t v,Try.f17.params[j]? = some t->args[j]? = some v->Value.okWide Try.prog W .any base t v:=hval0
 have hW':=hW
 obtain ⟨p,q,hA0,hV,rfl,hfz,hnd⟩:=hW
 have hA:DataW.TrodAll enc Try.prog W 0 (fun _=>true) true Try.f17.params.toList args.toList ds p:=hA0
 obtain ⟨rfl,rfl⟩:=trodVars_none hV
 have hds:ds.length=2:=(trodAll_len hA).trans (by kernel_rfl)
 obtain ⟨d0,d1,rfl⟩ : ∃ d0 d1,ds=[d0,d1]:=by
  match ds,hds with
  | [d0,d1],_=>exact ⟨d0,d1,rfl⟩
 clear hA0 hval0;simp only [List.append_nil] at hW'
 have hc:=law_run smTl_ok gsTl_ok lawLoaded_ok topLoadedBatchFit topLoadedBatchSig hA fun j t v ht hv=>hval j t v (by rw [←Array.getElem?_toList];exact ht) (by rw [←Array.getElem?_toList];exact hv)
 rw [Array.toArray_toList] at hc
 have hlt : ∀ x∈p,x.block<W.heap.size:=fun x hx=>hW'.lt x hx
 refine hc.mono fun e W' ⟨he,hw⟩ => ?_
 subst he;exact ⟨_,rfl,post_of_below (pa:=p) (pv:=[]) hW' (fun _ _ _=>trodAll_mk1 (shut_trueR Try.underlying4)) (fun sp hsp=>trodAll_stays clo1 topLoadedBatchAll hA (fun x hx=>hw.same (hlt x hx)) (fun x hx=>hsp x hx)) (fun _ _=>rfl) (by simp) hw (ok_one (by kernel_rfl) rfl (okWide_trueR Try.underlying4))⟩
theorem topLoadedBatchHolds:Rows.TopLoadedBatchSaid:=
 OpenClaim.holds_of_wide 17 Try.f17 rfl rfl rfl rfl rfl rfl rfl ⟨rfl,rfl,rfl,rfl,rfl⟩ rfl rfl rfl rfl rfl (by kernel_rfl) Try.func17 topLoadedBatchClosed
  (of_decide_eq_true (by kernel_rfl)) (by unfold Func.isWrapper;first | (rw [if_pos (by decide +kernel)];kernel_rfl) | (rw [if_neg (by decide +kernel)];exact ⟨rfl,rfl⟩))
  (fun os started H enc _=>topLoadedBatchLifted os started H enc)
#print axioms topLoadedBatchHolds
end Go.Proofs.Ytdpabnfcfakjeaa
