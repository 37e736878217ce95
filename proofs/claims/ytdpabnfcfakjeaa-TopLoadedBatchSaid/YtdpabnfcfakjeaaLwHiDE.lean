/-
 Contracts: BatchOf, WitnessesOf.
-/
import Derived.Test.YtdpabnfcfakjeaaLwHiC
namespace Go.Ex
open Go Go.Proofs Go.RowKit
open Go.IntKind (i64)
open Int (ofNat)
open List (length)
open Go.Ex.Ref (root)
open Nat (beq)
open Go.Ex.Sh (int str)
open Go.Ex.FD (list)
noncomputable section
set_option maxRecDepth 1000000
def rdA (hp:T Blk)(svs:List Sv):Option NK:=match rdB hp svs with
 | some i=>some i
 | none=>rdW hp svs
theorem adf:XM (mkR gO gsF) Try.prog η0 135 (FI.of Try.f135 true) rdA:=⟨PD.1,fun hp svs i hi=>by
 unfold rdA at hi;split at hi
 ·rename_i j hj
  cases hi
  exact PD.2 hp svs _ hj
 ·exact ZC.2 hp svs i hi⟩
def gsG:G2:=G2.setE gsF 135 (acS rdA)
theorem adg:cZ gsG:=cZ.setE jH (by kernel_rfl) (aay b8 jH adf)
def fD (f:Nat->Nat->FD)(q:List UInt8)(i:Nat):Bool := !decide ((f i 0).i=2)&&aA (f i 2).s q
def R5:List PT:=[.one (.list [.int .i64,.str,.str])]
def F2:Clo:=(134,[(9,[.str])])
def LJ:List FD->List FD->Bool
 | [.list _ nh _],[.str _]=>Nat.ble nh 102
 | _,_=>false
def R6:List FD->List FD->List FD
 | [.list _ nh fh],[.str q]=>[.int .i64 (bE (fD fh q) nh 0)]
 | _,_=>[]
def ZD (nh:Nat)(fh:Nat->Nat->FD)(q:List UInt8):Nat->bT:=fun i=>match i with | 2=>⟨Nat,fun _=>[{ι:=Nat,G:=fun x=>x<=nh/\bE (fD fh q) (nh-x) x=bE (fD fh q) nh 0,μ:=fun x=>nh-x,tl:=fun x=>[(0,.one (.fz (.root 0 0) (list [int i64,str,str] nh fh))),(1,.one (.fn 134 [(1,0)])),(6,.one (.fz (.root 0 0) (list [int i64,str,str] nh fh))),(7,.one (.int i64 (.tm (ofNat nh)))),(8,.one (.int i64 (.tm (ofNat x))))],bl:=fun x=>[(1,.cells 9 1 [.ostr q])],nx:=length (Prod.snd F2)+(1:Nat)}]⟩ | _=>⟨Nat,fun _=>[]⟩
theorem ZE:qB 152 (lK R5 F2 (.one (.int .i64)) LJ R6):=by
 refine jO b8 jH Try.fok152 (fun fds bds=>match fds,bds with | [.list _ nh fh],[.str q]=>ZD nh fh q | _,_=>aW fun _=>[]) rfl rfl ?_
 intro fds bds hf hb hc;obtain ⟨nh,fh,ds0,rfl,gh,hf1⟩:=hf.list;obtain rfl:=hf1.nil;obtain ⟨q,es0,rfl,hb1⟩:=hb.str;obtain rfl:=hb1.nil
 have hc:(Nat.ble nh 102)=true:=hc
 have hvc:(vcH gO gsF (FI.of Try.f152 true) R5 F2 (.one (.int .i64)) (ZD nh fh q) [.list [.int .i64,.str,.str] nh fh] [.str q] (R6 [.list [.int .i64,.str,.str] nh fh] [.str q]))=
  (true=true/\ ∃y0:Nat,(∃y1:Nat,((y1<=nh/\bE (fD fh q) (nh-y1) y1=bE (fD fh q) nh (0:Nat))/\True)/\(true=true/\(root 0 0=root 0 0/\list [int i64,str,str] nh fh=list [int i64,str,str] nh fh/\true=true)/\((134:FuncId)=Prod.fst F2/\(1,1)∈([(1,1)]:List (Nat×Nat))/\0=0/\True)/\(root 0 0=root 0 0/\list [int i64,str,str] nh fh=list [int i64,str,str] nh fh/\true=true)/\(i64=i64/\ofNat nh=ofNat nh)/\(i64=i64/\ofNat y1=(0:Int))/\True)/\((9:TypeId)=Prod.fst ((9:TypeId),[str])/\1=1/\q=q/\True)/\True)/\ ∀y1:Nat,y1<=nh/\bE (fD fh q) (nh-y1) y1=bE (fD fh q) nh (0:Nat)->(decide (ofNat y1<ofNat nh)=true->((decide ((0:Int)<=ofNat y1)&&decide (ofNat y1<(↑nh:Int)))=true->(decide (FD.i (fh (Int.toNat (ofNat y1)) (0:Nat))=(2:Int))=true-> ∃y2:Nat,((y2<=nh/\bE (fD fh q) (nh-y2) y2=bE (fD fh q) nh (0:Nat))/\nh-y2<nh-y1)/\(true=true/\(root 0 0=root 0 0/\list [int i64,str,str] nh fh=list [int i64,str,str] nh fh/\true=true)/\((134:FuncId)=(134:FuncId)/\(1,1)∈([(1,1)]:List (Nat×Nat))/\0=0/\True)/\(root 0 0=root 0 0/\list [int i64,str,str] nh fh=list [int i64,str,str] nh fh/\true=true)/\(i64=i64/\ofNat nh=ofNat nh)/\(i64=i64/\ofNat y2=IntKind.wrap i64 (ofNat y1+(1:Int)))/\True)/\((9:TypeId)=(9:TypeId)/\1=1/\q=q/\True)/\True)/\(decide (FD.i (fh (Int.toNat (ofNat y1)) (0:Nat))=(2:Int))=false->(aA (FD.s (fh (Int.toNat (ofNat y1)) ((0:Nat)+(1:Nat)+(1:Nat)))) q=true->i64=i64/\bE (fD fh q) nh (0:Nat)=ofNat y1)/\(aA (FD.s (fh (Int.toNat (ofNat y1)) ((0:Nat)+(1:Nat)+(1:Nat)))) q=false-> ∃y2:Nat,((y2<=nh/\bE (fD fh q) (nh-y2) y2=bE (fD fh q) nh (0:Nat))/\nh-y2<nh-y1)/\(true=true/\(root 0 0=root 0 0/\list [int i64,str,str] nh fh=list [int i64,str,str] nh fh/\true=true)/\((134:FuncId)=(134:FuncId)/\(1,1)∈([(1,1)]:List (Nat×Nat))/\0=0/\True)/\(root 0 0=root 0 0/\list [int i64,str,str] nh fh=list [int i64,str,str] nh fh/\true=true)/\(i64=i64/\ofNat nh=ofNat nh)/\(i64=i64/\ofNat y2=IntKind.wrap i64 (ofNat y1+(1:Int)))/\True)/\((9:TypeId)=(9:TypeId)/\1=1/\q=q/\True)/\True)))/\((decide ((0:Int)<=ofNat y1)&&decide (ofNat y1<(↑nh:Int)))=false->False))/\(decide (ofNat y1<ofNat nh)=false->i64=i64/\bE (fD fh q) nh (0:Nat)=(-1:Int))):=by kernel_rfl
 refine hvc.mpr ?_;clear hvc
 have hn:=Nat.le_of_ble_eq_true hc
 simp
 have up : ∀ y,y<nh->bE (fD fh q) (nh-y) y=bE (fD fh q) nh 0->fD fh q y=false -> ∃ y2:Nat,((y2<=nh/\bE (fD fh q) (nh-y2) y2=bE (fD fh q) nh 0)/\nh-y2<nh-y)/\(y2:Int)=IntKind.i64.wrap ((y:Int)+1):=fun y hlt he hb=>by
  refine ⟨y+1,⟨⟨by omega,?_⟩,by omega⟩,by rw [aO (by omega) (by omega)];rfl⟩
  rw [←he,show nh-y=nh-(y+1)+1 by omega,fI,hb]
  rfl
 refine ⟨rfl,fun y hy he=>⟨fun hlt=>⟨fun _=>⟨fun hk=>up y hlt he (by simp [fD,hk]),fun hk=>⟨fun e => ?_,fun e=>up y hlt he (by simp [fD,e])⟩⟩,hlt⟩,fun hge => ?_⟩⟩
 ·rw [←he,show nh-y=nh-(y+1)+1 by omega,fI,show fD fh q y=true by simp [fD,hk,e]]
  rfl
 ·rw [←he,show nh-y=0 by omega]
  rfl
def adh:G2:=(G2.setH gsG 152 (lK R5 F2 (.one (.int .i64)) LJ R6))
theorem T9:cZ adh:=(cZ.setH adg (by kernel_rfl) ZE)
def R7:List PT:=[.one (.list [.int .i64,.str,.str])]
def R8:Clo:=(134,[(9,[.str])])
def pA:List FD->List FD->Bool
 | [.list _ nh _],[.str _]=>Nat.ble nh 102
 | _,_=>false
def R9:List FD->List FD->List FD
 | [.list _ nh fh],[.str q]=>[.bool (dK (fD fh q) nh 0)]
 | _,_=>[]
def ZF (_nh:Nat)(_fh:Nat->Nat->FD)(_q:List UInt8):Nat->bT:=aW (fun _=>[])
theorem ZG:qB 133 (lK R7 R8 (.one .bool) pA R9):=by
 refine jO b8 T9 Try.fok133 (fun fds bds=>match fds,bds with | [.list _ nh fh],[.str q]=>ZF nh fh q | _,_=>aW fun _=>[]) rfl rfl ?_
 intro fds bds hf hb hc;obtain ⟨nh,fh,ds0,rfl,gh,hf1⟩:=hf.list;obtain rfl:=hf1.nil;obtain ⟨q,es0,rfl,hb1⟩:=hb.str;obtain rfl:=hb1.nil
 have hc:(Nat.ble nh 102)=true:=hc
 have hvc:(vcH gO adh (FI.of Try.f133 true) R7 R8 (.one .bool) (ZF nh fh q) [.list [.int .i64,.str,.str] nh fh] [.str q] (R9 [.list [.int .i64,.str,.str] nh fh] [.str q]))=
  (true=true/\(LJ [list [int i64,str,str] nh fh] ([FD.str q]++[])=true->dK (fD fh q) nh (0:Nat)=(! (decide (bE (fD fh q) nh (0:Nat)<(0:Int)))))/\(LJ [list [int i64,str,str] nh fh] ([FD.str q]++[])=false->False)):=by kernel_rfl
 refine hvc.mpr ?_;clear hvc
 have:=lL (fD fh q) nh 0
 simp;exact ⟨fun _=>by rw [this,Bool.not_not],hc⟩
def SA:G2:=(G2.setH adh 133 (lK R7 R8 (.one .bool) pA R9))
theorem sG:cZ SA:=(cZ.setH T9 (by kernel_rfl) ZG)
def baE (n:Nat)(f:Nat->Nat->FD)(q:List UInt8):Int:=if bF n f=0 then (if dK (fD f q) n 0=true then 0 else 6) else bF n f
def baL (n:Nat)(f:Nat->Nat->FD)(q:List UInt8):List (List UInt8):=if baE n f q=0 then coL (aS f n).length (aC (aS f n)) (isB (stM f n) q) else []
def F3:List PT:=[.one (.list [.int .i64,.str,.str]),.one (.str)]
def gR:List FD->Bool
 | [.list _ nh fh,.str _]=>sR nh fh
 | _=>false
def F4:List FD->List FD
 | [.list _ nh fh,.str q]=>[.list [.str] (baL nh fh q).length (aC (baL nh fh q)),.int .i64 (baE nh fh q)]
 | _=>[]
def PE (_nh:Nat)(_fh:Nat->Nat->FD)(_q:List UInt8):Nat->bT:=aW (fun _=>[])
theorem SB:cT (mkR gO SA) Try.prog η0 75 (FI.of Try.f75 false) F3 (.tup [.one (.list [.str]),.one (.int .i64)]) gR F4:=by
 refine aL b8 sG Try.fok75 (fun fds=>match fds with | [.list _ nh fh,.str q]=>PE nh fh q | _=>aW fun _=>[]) ?_
 intro fds hf hc;obtain ⟨nh,fh,ds0,rfl,gh,hf1⟩:=hf.list;obtain ⟨q,ds1,rfl,hf2⟩:=hf1.str;obtain rfl:=hf2.nil
 have hc:(sR nh fh)=true:=hc
 have hvc:(vcF gO SA (FI.of Try.f75 false) F3 (.tup [.one (.list [.str]),.one (.int .i64)]) (PE nh fh q) noR [.list [.int .i64,.str,.str] nh fh,.str q] (F4 [.list [.int .i64,.str,.str] nh fh,.str q]))=
  (true=true/\(jS [list [int i64,str,str] nh fh]=true->(beq nh (0:Nat)=true->(true=false->length (baL nh fh q)=0/\(i64=i64/\baE nh fh q=(0:Int))/\True)/\(true=true->(pA [list [int i64,str,str] nh fh] ([FD.str q]++[])=true->(dK (fD fh q) nh (0:Nat)=false->length (baL nh fh q)=0/\(i64=i64/\baE nh fh q=(6:Int))/\True)/\(dK (fD fh q) nh (0:Nat)=true->False))/\(pA [list [int i64,str,str] nh fh] ([FD.str q]++[])=false->False)))/\(beq nh (0:Nat)=false->(decide (bF nh fh=(0:Int))=true->(true=false->length (baL nh fh q)=0/\(i64=i64/\baE nh fh q=(0:Int))/\True)/\(true=true->(pA [list [int i64,str,str] nh fh] ([FD.str q]++[])=true->(dK (fD fh q) nh (0:Nat)=false->length (baL nh fh q)=0/\(i64=i64/\baE nh fh q=(6:Int))/\True)/\(dK (fD fh q) nh (0:Nat)=true->((beq (length (aS fh nh)) (length (aS fh nh))&&Nat.ble (length (aS fh nh)) (1000:Nat))=true->(beq (length (coL (length (aS fh nh)) (aC (aS fh nh)) (isB (stM fh nh) q))) (0:Nat)=true->length (baL nh fh q)=0/\(i64=i64/\baE nh fh q=(0:Int))/\True)/\(beq (length (coL (length (aS fh nh)) (aC (aS fh nh)) (isB (stM fh nh) q))) (0:Nat)=false->(1<=5/\[str]=[str]/\length (coL (length (aS fh nh)) (aC (aS fh nh)) (isB (stM fh nh) q))=length (coL (length (aS fh nh)) (aC (aS fh nh)) (isB (stM fh nh) q))/\length (baL nh fh q)=length (coL (length (aS fh nh)) (aC (aS fh nh)) (isB (stM fh nh) q))/\ ∀y0:Nat,y0<length (coL (length (aS fh nh)) (aC (aS fh nh)) (isB (stM fh nh) q))-> ∀y1:Nat,y1<length [str]->aC (baL nh fh q) y0 y1=aC (coL (length (aS fh nh)) (aC (aS fh nh)) (isB (stM fh nh) q)) y0 y1)/\(i64=i64/\baE nh fh q=(0:Int))/\True))/\((beq (length (aS fh nh)) (length (aS fh nh))&&Nat.ble (length (aS fh nh)) (1000:Nat))=false->False)))/\(pA [list [int i64,str,str] nh fh] ([FD.str q]++[])=false->False)))/\(decide (bF nh fh=(0:Int))=false->(decide (bF nh fh=(0:Int))=false->length (baL nh fh q)=0/\(i64=i64/\baE nh fh q=bF nh fh)/\True)/\(decide (bF nh fh=(0:Int))=true->(pA [list [int i64,str,str] nh fh] ([FD.str q]++[])=true->(dK (fD fh q) nh (0:Nat)=false->length (baL nh fh q)=0/\(i64=i64/\baE nh fh q=(6:Int))/\True)/\(dK (fD fh q) nh (0:Nat)=true->False))/\(pA [list [int i64,str,str] nh fh] ([FD.str q]++[])=false->False)))))/\(jS [list [int i64,str,str] nh fh]=false->False)):=by kernel_rfl
 refine hvc.mpr ?_;clear hvc;obtain ⟨hn1,hev⟩:=zN hc
 have hcon:pA [list [int i64,str,str] nh fh] [FD.str q]=true:=Nat.ble_eq_true_of_le hn1
 have hlen:=mT fh nh
 have e6:bF nh fh=0->dK (fD fh q) nh 0=false->baL nh fh q=[]/\baE nh fh q=6:=fun h h'=>by
  have e:baE nh fh q=6:=by rw [baE,if_pos h,if_neg (by rw [h'];decide)]
  exact ⟨by rw [baL,e];rfl,e⟩
 have e0:bF nh fh=0->dK (fD fh q) nh 0=true->baL nh fh q=coL (aS fh nh).length (aC (aS fh nh)) (isB (stM fh nh) q)/\baE nh fh q=0:=fun h h'=>by
  have e:baE nh fh q=0:=by rw [baE,if_pos h,if_pos h']
  exact ⟨by rw [baL,if_pos e],e⟩
 simp;refine ⟨fun _=>⟨fun h=>⟨fun _=>⟨fun h'=>e6 (by subst h;rfl) h',by subst h;rfl⟩,hcon⟩,fun _=>⟨fun h=>⟨fun _=>⟨e6 h,fun h'=>⟨fun _=>⟨fun h2 => ?_,fun _ => ?_⟩,by omega⟩⟩,hcon⟩,fun h=>⟨fun _ => ?_,fun h'=>absurd h' h⟩⟩⟩,hc⟩
 ·obtain ⟨q1,q2⟩:=e0 h h';exact ⟨by rw [q1,h2],q2⟩
 ·obtain ⟨q1,q2⟩:=e0 h h';rw [q1];exact ⟨⟨rfl,fun _ _=>rfl⟩,q2⟩
 ·have e:baE nh fh q=bF nh fh:=by rw [baE,if_neg h]
  exact ⟨by rw [baL,if_neg (by rw [e];exact h)],e⟩
def wiE (n:Nat)(f:Nat->Nat->FD)(p:List UInt8):Int:=if bF n f=0 then (match stF f n p with
 | none=>6
 | some s=>if aA s.1 []=true then 22 else 0) else bF n f
def wiL (n:Nat)(f:Nat->Nat->FD)(p:List UInt8):List (List UInt8):=if wiE n f p=0 then coL (aS f n).length (aC (aS f n)) (isW (stM f n) p ((stF f n p).getD ([],false,0)).1) else []
def pB:List PT:=[.one (.list [.int .i64,.str,.str]),.one (.str)]
def iZ:List FD->Bool
 | [.list _ nh fh,.str _]=>sR nh fh
 | _=>false
def pC:List FD->List FD
 | [.list _ nh fh,.str p]=>[.list [.str] (wiL nh fh p).length (aC (wiL nh fh p)),.int .i64 (wiE nh fh p)]
 | _=>[]
def w8 (_nh:Nat)(_fh:Nat->Nat->FD)(_p:List UInt8):Nat->bT:=aW (fun _=>[])
theorem F5:cT (mkR gO SA) Try.prog η0 76 (FI.of Try.f76 false) pB (.tup [.one (.list [.str]),.one (.int .i64)]) iZ pC:=by
 refine aL b8 sG Try.fok76 (fun fds=>match fds with | [.list _ nh fh,.str p]=>w8 nh fh p | _=>aW fun _=>[]) ?_
 intro fds hf hc;obtain ⟨nh,fh,ds0,rfl,gh,hf1⟩:=hf.list;obtain ⟨p,ds1,rfl,hf2⟩:=hf1.str;obtain rfl:=hf2.nil
 have hc:(sR nh fh)=true:=hc
 have hvc:(vcF gO SA (FI.of Try.f76 false) pB (.tup [.one (.list [.str]),.one (.int .i64)]) (w8 nh fh p) noR [.list [.int .i64,.str,.str] nh fh,.str p] (pC [.list [.int .i64,.str,.str] nh fh,.str p]))=
  (true=true/\(jS [list [int i64,str,str] nh fh]=true->(beq nh (0:Nat)=true->(true=false->length (wiL nh fh p)=0/\(i64=i64/\wiE nh fh p=(0:Int))/\True)/\(true=true->(false=false->length (wiL nh fh p)=0/\(i64=i64/\wiE nh fh p=(6:Int))/\True)/\(false=true->(true=true->length (wiL nh fh p)=0/\(i64=i64/\wiE nh fh p=(22:Int))/\True)/\(true=false->False))))/\(beq nh (0:Nat)=false->(decide (bF nh fh=(0:Int))=true->(true=false->length (wiL nh fh p)=0/\(i64=i64/\wiE nh fh p=(0:Int))/\True)/\(true=true->(iT (stM fh nh p)=false->length (wiL nh fh p)=0/\(i64=i64/\wiE nh fh p=(6:Int))/\True)/\(iT (stM fh nh p)=true->(aA (FD.s (mgt (stM fh nh p) [FD.str [],FD.bool false,FD.int i64 (0:Int)] (0:Nat))) (Array.toList (ByteArray.data {data:= #[]}))=true->length (wiL nh fh p)=0/\(i64=i64/\wiE nh fh p=(22:Int))/\True)/\(aA (FD.s (mgt (stM fh nh p) [FD.str [],FD.bool false,FD.int i64 (0:Int)] (0:Nat))) (Array.toList (ByteArray.data {data:= #[]}))=false->((beq (length (aS fh nh)) (length (aS fh nh))&&Nat.ble (length (aS fh nh)) (1000:Nat))=true->(beq (length (coL (length (aS fh nh)) (aC (aS fh nh)) (isW (stM fh nh) p (FD.s (mgt (stM fh nh p) [FD.str [],FD.bool false,FD.int i64 (0:Int)] (0:Nat)))))) (0:Nat)=true->length (wiL nh fh p)=0/\(i64=i64/\wiE nh fh p=(0:Int))/\True)/\(beq (length (coL (length (aS fh nh)) (aC (aS fh nh)) (isW (stM fh nh) p (FD.s (mgt (stM fh nh p) [FD.str [],FD.bool false,FD.int i64 (0:Int)] (0:Nat)))))) (0:Nat)=false->(1<=17/\[str]=[str]/\length (coL (length (aS fh nh)) (aC (aS fh nh)) (isW (stM fh nh) p (FD.s (mgt (stM fh nh p) [FD.str [],FD.bool false,FD.int i64 (0:Int)] (0:Nat)))))=length (coL (length (aS fh nh)) (aC (aS fh nh)) (isW (stM fh nh) p (FD.s (mgt (stM fh nh p) [FD.str [],FD.bool false,FD.int i64 (0:Int)] (0:Nat)))))/\length (wiL nh fh p)=length (coL (length (aS fh nh)) (aC (aS fh nh)) (isW (stM fh nh) p (FD.s (mgt (stM fh nh p) [FD.str [],FD.bool false,FD.int i64 (0:Int)] (0:Nat)))))/\ ∀y0:Nat,y0<length (coL (length (aS fh nh)) (aC (aS fh nh)) (isW (stM fh nh) p (FD.s (mgt (stM fh nh p) [FD.str [],FD.bool false,FD.int i64 (0:Int)] (0:Nat)))))-> ∀y1:Nat,y1<length [str]->aC (wiL nh fh p) y0 y1=aC (coL (length (aS fh nh)) (aC (aS fh nh)) (isW (stM fh nh) p (FD.s (mgt (stM fh nh p) [FD.str [],FD.bool false,FD.int i64 (0:Int)] (0:Nat))))) y0 y1)/\(i64=i64/\wiE nh fh p=(0:Int))/\True))/\((beq (length (aS fh nh)) (length (aS fh nh))&&Nat.ble (length (aS fh nh)) (1000:Nat))=false->False)))))/\(decide (bF nh fh=(0:Int))=false->(decide (bF nh fh=(0:Int))=false->length (wiL nh fh p)=0/\(i64=i64/\wiE nh fh p=bF nh fh)/\True)/\(decide (bF nh fh=(0:Int))=true->False))))/\(jS [list [int i64,str,str] nh fh]=false->False)):=by kernel_rfl
 refine hvc.mpr ?_;clear hvc;obtain ⟨hn1,hev⟩:=zN hc
 have hlen:=mT fh nh
 simp
 have hm:(mgt (stM fh nh p) [FD.str [],FD.bool false,FD.int i64 0] 0).s=((stF fh nh p).getD ([],false,0)).1:=by rw [o8];rfl
 rw [hm,zO]
 have e6:bF nh fh=0->(stF fh nh p).isSome=false->wiL nh fh p=[]/\wiE nh fh p=6:=fun h h'=>by
  have e:wiE nh fh p=6:=by
   rw [wiE,if_pos h]
   cases he:stF fh nh p with
   | none=>rfl
   | some s=>rw [he] at h';cases h'
  exact ⟨by rw [wiL,e];rfl,e⟩
 have eS:bF nh fh=0->(stF fh nh p).isSome=true->wiE nh fh p=if aA ((stF fh nh p).getD ([],false,0)).1 []=true then 22 else 0:=fun h h'=>by
  rw [wiE,if_pos h]
  cases he:stF fh nh p with
  | none=>rw [he] at h';cases h'
  | some s=>rfl
 refine ⟨fun _=>⟨fun h=>by subst h;exact ⟨rfl,rfl⟩,fun _=>⟨fun h=>⟨e6 h,fun h1=>⟨fun h2 => ?_,fun h2=>⟨fun _=>⟨fun h3 => ?_,fun _ => ?_⟩,by omega⟩⟩⟩,fun h=>⟨fun _ => ?_,h⟩⟩⟩,hc⟩
 ·have e:=(eS h h1).trans (if_pos h2)
  exact ⟨by rw [wiL,e];rfl,e⟩
 ·have e:=(eS h h1).trans (if_neg (by rw [h2];decide))
  exact ⟨by rw [wiL,if_pos e,h3],e⟩
 ·have e:=(eS h h1).trans (if_neg (by rw [h2];decide))
  rw [wiL,if_pos e];exact ⟨⟨rfl,fun _ _=>rfl⟩,e⟩
 ·have e:wiE nh fh p=bF nh fh:=by rw [wiE,if_neg h]
  exact ⟨by rw [wiL,if_neg (by rw [e];exact h)],e⟩
end
end Go.Ex
namespace Go.Ex
open Go Go.Proofs Go.RowKit
open Go.IntKind (i64)
open Int (ofNat)
open List (length)
open Go.Ex.Ref (root)
open Nat (beq)
open Go.Ex.Sh (int str)
open Go.Ex.FD (list)
noncomputable section
set_option maxRecDepth 1000000
def SC:List PT:=[.one (.list [.str]),.one (.list [.str])]
def ZH:List FD->Bool
 | [.list _ _ _,.list _ _ _]=>true
 | _=>false
def SD:List FD->List FD
 | [.list _ na fa,.list _ nb fb]=>[.bool (beq na nb&&aH (fun i=>aA (fa i 0).s (fb i 0).s) na)]
 | _=>[]
def ZI (na:Nat)(fa:Nat->Nat->FD)(nb:Nat)(fb:Nat->Nat->FD):Nat->bT:=fun i=>match i with | 4=>⟨Nat,fun _=>[{ι:=Nat,G:=fun x=>(x<=na/\na=nb)/\aH (fun i=>aA (fa i 0).s (fb i 0).s) x=true,μ:=fun x=>na-x,tl:=fun x=>[(0,.one (.fz (.root 0 0) (list [str] na fa))),(1,.one (.fz (.root 0 1) (list [str] nb fb))),(4,.one (.bool (.lit false))),(5,.one (.int i64 (.tm (ofNat x))))],bl:=fun _=>[],nx:=(1:Nat)}]⟩ | _=>⟨Nat,fun _=>[]⟩
theorem ZJ:cT (mkR ade SA) Try.prog η0 81 (FI.of Try.f81 true) SC (.one .bool) ZH SD:=by
 refine aL T6 sG Try.fok81 (fun fds=>match fds with | [.list _ na fa,.list _ nb fb]=>ZI na fa nb fb | _=>aW fun _=>[]) ?_
 intro fds hf hc;obtain ⟨na,fa,ds0,rfl,ga,hf1⟩:=hf.list;obtain ⟨nb,fb,ds1,rfl,gb,hf2⟩:=hf1.list;obtain rfl:=hf2.nil
 have hc:(true)=true:=hc
 have hvc:(vcF ade SA (FI.of Try.f81 true) SC (.one .bool) (ZI na fa nb fb) noR [.list [.str] na fa,.list [.str] nb fb] (SD [.list [.str] na fa,.list [.str] nb fb]))=
  (true=true/\(decide (ofNat na=ofNat nb)=false->(beq na nb&&aH (fun (i:Nat)=>aA (FD.s (fa i (0:Nat))) (FD.s (fb i (0:Nat)))) na)=false)/\(decide (ofNat na=ofNat nb)=true-> ∃y0:Nat,(∃y1:Nat,(((y1<=na/\na=nb)/\aH (fun (i:Nat)=>aA (FD.s (fa i (0:Nat))) (FD.s (fb i (0:Nat)))) y1=true)/\True)/\(true=true/\(root 0 0=root 0 0/\list [str] na fa=list [str] na fa/\true=true)/\(root 0 1=root 0 1/\list [str] nb fb=list [str] nb fb/\true=true)/\false=false/\(i64=i64/\ofNat y1=(0:Int))/\True)/\True)/\ ∀y1:Nat,(y1<=na/\na=nb)/\aH (fun (i:Nat)=>aA (FD.s (fa i (0:Nat))) (FD.s (fb i (0:Nat)))) y1=true->(decide (ofNat y1<ofNat na)=true->((decide ((0:Int)<=ofNat y1)&&decide (ofNat y1<(↑na:Int)))=true->((decide ((0:Int)<=ofNat y1)&&decide (ofNat y1<(↑nb:Int)))=true->((! (aA (FD.s (fa (Int.toNat (ofNat y1)) (0:Nat))) (FD.s (fb (Int.toNat (ofNat y1)) (0:Nat)))))=true->(beq na nb&&aH (fun (i:Nat)=>aA (FD.s (fa i (0:Nat))) (FD.s (fb i (0:Nat)))) na)=false)/\((! (aA (FD.s (fa (Int.toNat (ofNat y1)) (0:Nat))) (FD.s (fb (Int.toNat (ofNat y1)) (0:Nat)))))=false-> ∃y2:Nat,(((y2<=na/\na=nb)/\aH (fun (i:Nat)=>aA (FD.s (fa i (0:Nat))) (FD.s (fb i (0:Nat)))) y2=true)/\na-y2<na-y1)/\(true=true/\(root 0 0=root 0 0/\list [str] na fa=list [str] na fa/\true=true)/\(root 0 1=root 0 1/\list [str] nb fb=list [str] nb fb/\true=true)/\false=false/\(i64=i64/\ofNat y2=IntKind.wrap i64 (ofNat y1+(1:Int)))/\True)/\True))/\((decide ((0:Int)<=ofNat y1)&&decide (ofNat y1<(↑nb:Int)))=false->False))/\((decide ((0:Int)<=ofNat y1)&&decide (ofNat y1<(↑na:Int)))=false->False))/\(decide (ofNat y1<ofNat na)=false->(beq na nb&&aH (fun (i:Nat)=>aA (FD.s (fa i (0:Nat))) (FD.s (fb i (0:Nat)))) na)=true))):=by kernel_rfl
 refine hvc.mpr ?_;clear hvc
 have hl:na<=maxLen:=ga.len
 have hl':maxLen=9223372036854775807:=rfl
 simp;refine ⟨fun h h'=>by omega,fun h=>⟨⟨by omega,rfl⟩,fun y hy hab ha=>⟨fun hlt=>⟨fun _=>⟨fun _=>⟨fun e _=>BS hlt e,fun e=>⟨y+1,⟨⟨⟨by omega,hab⟩,LL ha e⟩,by omega⟩,by rw [aO (by omega) (by omega)];rfl⟩⟩,by omega⟩,hlt⟩,fun hge=>⟨hab,by rw [show na=y by omega];exact ha⟩⟩⟩⟩
end
end Go.Ex
