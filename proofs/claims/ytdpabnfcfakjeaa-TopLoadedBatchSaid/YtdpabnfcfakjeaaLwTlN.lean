/-
 The law TopLoadedBatch, as the executor's contract.
-/
import Derived.Test.YtdpabnfcfakjeaaLwTlM
import Derived.Test.YtdpabnfcfakjeaaLwTlC
import Derived.Test.YtdpabnfcfakjeaaLwTlBE
namespace Go.Ex
open Go Go.Proofs Go.RowKit
open Go.IntKind (i64)
open Int (ofNat)
noncomputable section
set_option format.width 260
set_option maxRecDepth 1000000
theorem adw (g:Nat)(f:Nat->Nat->FD)(pc:Int)(q:List UInt8):adv g f pc q:=by
 dsimp only [adv,eW,mY,cH,mZ,rN,rO,rP,rQ,rR,rS,kR,pE,kS]
 have b1:Nat.ble q.length q.length=true:=Nat.ble_eq_true_of_le (Nat.le_refl _)
 by_cases h10:g<=10
 case neg=>
  have g10:decide ((10:Int)<ofNat g)=true:=decide_eq_true (by show (10:Int)<(g:Int);omega)
  simp only [g10,b1,reduceCtorEq,false_implies,true_implies,implies_true,true_and,and_true,and_self,decide_true,decide_false]
 have g10:decide ((10:Int)<ofNat g)=false:=decide_eq_false (by show ¬ (10:Int)<(g:Int);omega)
 cases hq:aM q with
 | false=>simp only [hq,g10,b1,fA,reduceCtorEq,false_implies,true_implies,implies_true,true_and,and_true,and_self,decide_true,decide_false]
 | true=>
 have a2:n7 ([FD.list [Sh.str,Sh.list [Sh.int i64]] g f,FD.int i64 pc]++[])=true:=Nat.ble_eq_true_of_le (by omega)
 by_cases hE:bJ pc g f=0
 case neg=>simp only [hq,hE,g10,a2,b1,fA,reduceCtorEq,false_implies,true_implies,implies_true,true_and,and_true,and_self,decide_true,decide_false]
 have a1:nT ([FD.list [Sh.str,Sh.list [Sh.int i64]] g f,FD.int i64 pc]++[])=true:=nD hE
 have a3:kZ ([FD.list [Sh.str,Sh.list [Sh.int i64]] g f,FD.int i64 pc]++[])=true:=nD hE
 have r0:blN pc g f=g:=if_pos hE
 have r3:blV pc g f=blC f g:=if_pos hE
 simp only [hq,hE,g10,a2,a1,a3,r0,r3,b1,fA,reduceCtorEq,false_implies,true_implies,implies_true,true_and,and_true,and_self,decide_true,decide_false]
 have hl0:=adz hE
 have nfn : ∀ {b:Bool},b=true->b=false->False:=fun h h'=>by rw [h] at h';cases h'
 have hmax : ∀ k,(nmL f (blT g f) k).length<=k:=fun k=>by
  unfold nmL;rw [List.length_map];exact Nat.le_trans (List.length_filter_le _ _) (by rw [List.length_range];exact Nat.le_refl _)
 refine fun _=>⟨0,.inl ⟨0,⟨Nat.zero_le _,rfl⟩,by simp,rfl⟩,?_,?_⟩
 ·rintro y1 ⟨hy,he⟩;refine ⟨fun hlt => ?_,fun hlt => ?_⟩
  ·have hlt:y1<g:=Int.ofNat_lt.1 (of_decide_eq_true hlt)
   have gA:(decide ((0:Int)<=ofNat y1)&&decide (ofNat y1<(g:Int)))=true:=by
    rw [Bool.and_eq_true];exact ⟨decide_eq_true (Int.natCast_nonneg y1),decide_eq_true (Int.ofNat_lt.2 hlt)⟩
   have hw:ofNat (y1+1)=IntKind.i64.wrap (ofNat y1+1):=(aO (by show -9223372036854775808<=((y1:Int)+1);omega) (by show ((y1:Int)+1)<=_;omega)).symm
   refine ⟨fun _=>⟨fun hp => .inl ⟨y1+1,⟨⟨hlt,?_⟩,by omega⟩,by simp,hw⟩,fun hp=>⟨fun _=>⟨y1,V7 g f pc q y1 he (of_decide_eq_false hp),fun _ => .inr ⟨y1+1,⟨⟨hlt,?_⟩,by omega⟩,⟨by simp,⟨by simp,rfl⟩,⟨by simp,rfl⟩,hw⟩,⟨rfl,fun _ _ _ _=>rfl⟩,rfl,fun _ _ _ _=>rfl⟩⟩,nfn gA⟩⟩,nfn gA⟩
   ·rw [UQ (y:=y1) (of_decide_eq_true hp),he]
   ·rw [G0 (y:=y1) (of_decide_eq_false hp)];simp
  ·obtain rfl:y1=g:=by
    have:=of_decide_eq_false hlt
    have : ¬ (y1:Int)<(g:Int):=this
    omega
   rw [he] at hl0
   have e0:blC f y1=0:=hl0.symm
   rw [e0];exact ⟨fun h=>absurd h (by decide),fun _ h=>absurd h (by decide)⟩
 ·rintro y1 ⟨hy,he⟩;refine ⟨fun hlt => ?_,fun hlt => ?_⟩
  ·have hlt:y1<g:=Int.ofNat_lt.1 (of_decide_eq_true hlt)
   have gA:(decide ((0:Int)<=ofNat y1)&&decide (ofNat y1<(g:Int)))=true:=by
    rw [Bool.and_eq_true];exact ⟨decide_eq_true (Int.natCast_nonneg y1),decide_eq_true (Int.ofNat_lt.2 hlt)⟩
   have hw:ofNat (y1+1)=IntKind.i64.wrap (ofNat y1+1):=(aO (by show -9223372036854775808<=((y1:Int)+1);omega) (by show ((y1:Int)+1)<=_;omega)).symm
   refine ⟨fun _=>⟨fun hp => .inr ⟨y1+1,⟨⟨hlt,?_⟩,by omega⟩,?_⟩,fun hp=>⟨fun _=>⟨fun h0 => ?_,fun _=>⟨y1,V8 g f pc q y1 (Nat.le_trans (hmax y1) (by omega)) he (of_decide_eq_false hp),fun _ => .inr ⟨y1+1,⟨⟨hlt,?_⟩,by omega⟩,⟨by simp,⟨by simp,rfl⟩,⟨by simp,rfl⟩,hw⟩,⟨rfl,fun _ _ _ _=>rfl⟩,rfl,fun _ _ _ _=>rfl⟩⟩⟩,nfn gA⟩⟩,nfn gA⟩
   ·rw [UQ (y:=y1) (of_decide_eq_true hp)];exact he
   ·rw [UQ (y:=y1) (of_decide_eq_true hp)];exact ⟨⟨by simp,⟨by simp,rfl⟩,⟨by simp,rfl⟩,hw⟩,⟨rfl,fun _ _ _ _=>rfl⟩,rfl,fun _ _ _ _=>rfl⟩
   ·have:=of_decide_eq_true h0
    exact absurd (List.length_eq_zero_iff.1 (Int.ofNat.inj this)) he
   ·rw [G0 (y:=y1) (of_decide_eq_false hp)];simp
  ·obtain rfl:y1=g:=by
    have:=of_decide_eq_false hlt
    have : ¬ (y1:Int)<(g:Int):=this
    omega
   have e0:blC f y1=ofNat (nmA f y1).length:=hl0.symm
   have e1:nmL f (blT y1 f) y1=nmA f y1:=rfl
   have hN:kT (nmA f y1) q:=abc hE h10 hq
   have hn:=hN.n
   have he:nmA f y1≠[]:=he
   have hp:0<(nmA f y1).length:=List.length_pos_iff.2 he
   rw [e0,e1]
   generalize hnm:nmA f y1=nm at *
   have f1:=ZX hp
   have f2:Nat.ble nm.length 1000000=true:=Nat.ble_eq_true_of_le (by omega)
   have f3:Nat.beq nm.length nm.length=true:=Nat.beq_refl _
   have f4:Nat.ble nm.length nm.length=true:=Nat.ble_eq_true_of_le (Nat.le_refl _)
   have f5 : ∀ s,gR [FD.list [Sh.int i64,Sh.str,Sh.str] nm.length (evF nm q),FD.str s]=true:=fun s=>PS hN (by omega)
   have f6:cI [FD.list [Sh.int i64,Sh.str,Sh.str] nm.length (evF nm q)]=true:=PS hN (by omega)
   have f7:=GX hN
   obtain ⟨f8,f9⟩:=aba hN hp
   have f10:aH (fun i=>aA (nm.getD i []) (nm.getD i [])) nm.length=true:=iK fun i _=>bW.2 rfl
   have f11:decide (ofNat nm.length=0)=false:=decide_eq_false (by show ¬ (nm.length:Int)=0;omega)
   simp only [f1,f2,f3,f4,f5,f6,f7,f8,f9,f10,f11,hnm,Nat.zero_add,Bool.true_and,Bool.and_true,Bool.and_self,reduceCtorEq,false_implies,true_implies,implies_true,true_and,and_true,and_self,decide_true,decide_false]
   have hne:nm=[]->False:=he
   have hN1:kT (nmA f y1) q:=by rw [hnm];exact hN
   have hw : ∀ y,y<nm.length->ofNat (y+1)=IntKind.i64.wrap (ofNat y+1):=fun y hy=>(aO (by show -9223372036854775808<=((y:Int)+1);omega) (by show ((y:Int)+1)<=_;omega)).symm
   have hv : ∀ y,y<=nm.length->ofNat nm.length-1-ofNat y=IntKind.i64.wrap (ofNat nm.length-1-ofNat y):=fun y hy=>(aO (by show -9223372036854775808<=((nm.length:Int)-1-(y:Int));omega) (by show ((nm.length:Int)-1-(y:Int))<=_;omega)).symm
   refine ⟨0,⟨0,⟨hne,Nat.zero_le _⟩,by simp,by simp,by simp,rfl⟩,?_⟩
   rintro y3 ⟨_,hy3⟩;refine ⟨fun hlt => ?_,fun hlt => ?_⟩
   ·have hlt:y3<nm.length:=Int.ofNat_lt.1 (of_decide_eq_true hlt)
    refine ⟨y3,ZY y1 f pc q y3 hN1 (by rw [hnm];exact hlt),fun _ => ?_⟩
    have hend : ∃ y6,(((nm=[]->False)/\y6<=nm.length)/\nm.length-y6<nm.length-y3)/\(1,1)∈[(6,6),(5,5),(1,1)]/\(5,5)∈[(6,6),(5,5),(1,1)]/\(6,6)∈[(6,6),(5,5),(1,1)]/\ofNat y6=IntKind.i64.wrap (ofNat y3+1):=
     ⟨y3+1,⟨⟨hne,hlt⟩,by omega⟩,by simp,by simp,by simp,hw y3 hlt⟩
    by_cases hz:y3=0
    ·subst hz;exact ⟨fun _=>⟨fun _=>⟨fun h=>(nomatch (show false=true from h)),fun _=>hend⟩,fun h=>(nomatch (show true=false from h))⟩,fun h=>(nomatch (show true=false from h))⟩
    ·have hwi:wiR nm y3=[nm.getD 0 []]:=if_neg hz
     have gA:decide (ofNat y3=0)=false:=decide_eq_false (by show ¬ (y3:Int)=0;omega)
     have gA':decide (0<ofNat y3)=true:=decide_eq_true (by show 0<(y3:Int);omega)
     have gB:(decide ((0:Int)<=0)&&(decide ((0:Int)<=1)&&decide ((1:Int)<=(nm.length:Int))))=true:=by
      rw [decide_eq_true (show (1:Int)<=(nm.length:Int) by omega)];rfl
     have gC:(Int.toNat 1).ble nm.length=true:=Nat.ble_eq_true_of_le hp
     have gD:((wiR nm y3).length.beq (Int.toNat 1)&&aH (fun i=>aA ((wiR nm y3).getD i []) (nm.getD i [])) (wiR nm y3).length)=true:=by
      rw [hwi,Bool.and_eq_true];refine ⟨rfl,iK fun i hi => ?_⟩
      obtain rfl:i=0:=by
       have:i<1:=hi
       omega
      exact bW.2 rfl
     exact ⟨fun h=>(nfn h gA).elim,fun _=>⟨fun _=>⟨fun _=>⟨fun _=>⟨nfn gD,fun _=>hend⟩,nfn gC⟩,nfn gB⟩,fun h=>(nfn gA' h).elim⟩⟩
   ·refine ⟨0,⟨0,⟨hne,Nat.zero_le _⟩,⟨by simp,⟨by simp,rfl⟩,by simp,?_⟩,rfl⟩,?_⟩
    ·have:=hv 0 (Nat.zero_le _)
     rw [show ofNat nm.length-1-ofNat 0=ofNat nm.length-1 from Int.sub_zero _] at this ⊢
     exact this
    rintro y5 ⟨_,hy5⟩;refine ⟨fun hge => ?_,fun hlt5 => ?_⟩
    ·have h5:y5<nm.length:=by
      have:=of_decide_eq_false hge
      have : ¬ ((nm.length:Int)-1-(y5:Int)<0):=this
      omega
     have gE:(decide (0<=ofNat nm.length-1-ofNat y5)&&decide (ofNat nm.length-1-ofNat y5<(nm.length:Int)))=true:=by
      rw [Bool.and_eq_true];exact ⟨decide_eq_true (by show 0<=(nm.length:Int)-1-(y5:Int);omega),decide_eq_true (by show (nm.length:Int)-1-(y5:Int)<_;omega)⟩
     have t:(ofNat nm.length-1-ofNat y5).toNat=nm.length-1-y5:=by
      show ((nm.length:Int)-1-(y5:Int)).toNat=_
      omega
     have gF:(ofNat nm.length-1-ofNat y5).toNat.blt nm.length=true:=by rw [t];exact Nat.ble_eq_true_of_le (by omega)
     have gG:((nm.length+y5).beq (nm.length+y5)&&(nm.length+y5+1).ble 1000000)=true:=by rw [Nat.beq_refl,Nat.ble_eq_true_of_le (by omega)];rfl
     refine ⟨fun _=>⟨fun _=>⟨fun _=>⟨y5+1,⟨⟨hne,h5⟩,by omega⟩,⟨by simp,⟨by simp,rfl⟩,by simp,?_⟩,rfl,fun y7 h7 y8 h8 => ?_⟩,nfn gG⟩,nfn gF⟩,nfn gE⟩
     ·have:=hv (y5+1) h5
      rw [show ofNat nm.length-1-ofNat (y5+1)=ofNat nm.length-1-ofNat y5-1 by show (nm.length:Int)-1-((y5:Int)+1)=(nm.length:Int)-1-(y5:Int)-1;omega] at this ⊢
      exact this
     ·rw [t];exact Z7 h5 h7 y8 h8
    ·obtain rfl:y5=nm.length:=by
      have:=of_decide_eq_true hlt5
      have:(nm.length:Int)-1-(y5:Int)<0:=this
      omega
     have gG:((nm.length+nm.length).beq (nm.length+nm.length)&&(nm.length+nm.length).ble 1000000)=true:=by rw [Nat.beq_refl,Nat.ble_eq_true_of_le (by omega)];rfl
     have gH:=ZX (n:=nm.length+nm.length) (by omega)
     obtain ⟨c1,c2⟩:=Z3 hN hp
     have gI:gR [FD.list [Sh.int i64,Sh.str,Sh.str] (nm.length+nm.length) (evF nm q),FD.str q]=true:=PS hN (Nat.le_refl _)
     rw [c1,c2];refine ⟨fun _=>⟨fun h=>nfn h gH,fun _=>⟨fun _=>⟨fun _=>⟨fun _=>⟨fun h=>(nomatch (show true=false from h)),fun _=>⟨0,⟨0,⟨hne,Nat.zero_le _⟩,⟨by simp,⟨by simp,rfl⟩,by simp,rfl⟩,rfl⟩,?_⟩⟩,fun h=>(nomatch (show true=false from h))⟩,nfn gI⟩,nfn (Nat.ble_eq_true_of_le (Nat.le_refl _))⟩⟩,nfn gG⟩
     rintro y7 ⟨_,_⟩ hlt7
     have hlt7:y7<nm.length:=Int.ofNat_lt.1 (of_decide_eq_true hlt7)
     have hlt8:y7<(nmA f y1).length:=by rw [hnm];exact hlt7
     exact ⟨y7,ZZ y1 f pc q y7 hN1 hlt8,fun y9=>⟨y7,Z0 y1 f pc q y7 y9 hN1 hlt8,fun _=>⟨y7+1,⟨⟨hne,hlt7⟩,by omega⟩,by simp,by simp,by simp,hw y7 hlt7⟩⟩⟩
theorem lawLoaded_ok:cT (mkR nB nC) Try.prog η0 17 (FI.of Try.f17 true) lawLoadedS (.one .bool) lawLoadedC lawLoadedR:=by
 refine aL smTl_ok gsTl_ok Try.fok17 (fun fds=>match fds with | [.list _ g f,.int _ pc,.str q]=>fY g f pc q | _=>aW fun _=>[]) ?_
 intro fds hf hc;obtain ⟨g,f,ds0,rfl,gps,hf1⟩:=hf.list;obtain ⟨pc,ds1,rfl,hf2⟩:=hf1.int;obtain ⟨q,ds2,rfl,hf3⟩:=hf2.str;obtain rfl:=hf3.nil
 have hc:(true)=true:=hc
 exact (aeP g f pc q).mpr (adw g f pc q)
end
end Go.Ex
