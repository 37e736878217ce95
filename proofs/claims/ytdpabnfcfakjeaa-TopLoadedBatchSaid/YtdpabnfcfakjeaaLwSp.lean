/-
 Contracts: copies; the document's spread.
-/
import Derived.Test.YtdpabnfcfakjeaaLwAwR
namespace Go.Ex
open Go Go.Proofs Go.RowKit
open Go.IntKind (i64 wrap)
open Prod (snd)
noncomputable section
set_option maxRecDepth 1000000
def smB:T Smf:=(T.set sm9 18 (some (gFd RA (.one .bool) X4 RB)))
theorem u7:Tab fC smB:=(Tab.set RX (by kernel_rfl) (aV X3 KJ X6 rfl))
def zX:List PT:=[.one (.list [.int .i64])]
def oD:List FD->Bool
 | [.list _ nl _]=>Nat.ble nl 1000000
 | _=>false
def zY:List FD->List FD
 | [.list _ nl fl]=>[.list [.int .i64] nl fl]
 | _=>[]
def I5 (_nl:Nat)(_fl:Nat->Nat->FD):Nat->bT:=aW (fun _=>[])
theorem PR:cT (mkR smB gs2) Try.prog η0 20 (FI.of Try.f20 false) zX (.one (.list [.int .i64])) oD zY:=by
 refine aL u7 cA Try.fok20 (fun fds=>match fds with | [.list _ nl fl]=>I5 nl fl | _=>aW fun _=>[]) ?_
 intro fds hf hc;obtain ⟨nl,fl,ds0,rfl,gl,hf1⟩:=hf.list;obtain rfl:=hf1.nil
 have hc:(Nat.ble nl 1000000)=true:=hc
 have hvc:(vcF smB gs2 (FI.of Try.f20 false) zX (.one (.list [.int .i64])) (I5 nl fl) noR [.list [.int .i64] nl fl] (zY [.list [.int .i64] nl fl]))=
  (true=true/\((true&&(true&&Nat.ble ((0:Nat)+nl) (1000000:Nat)))=true->(Nat.beq nl (0:Nat)=true->1<=1/\[Sh.int i64]=[Sh.int i64]/\0=0/\nl=0/\ ∀y0:Nat,y0<(0:Nat)-> ∀y1:Nat,y1<List.length [Sh.int i64]->fl y0 y1=fl y0 y1)/\(Nat.beq nl (0:Nat)=false->1<=2/\[Sh.int i64]=[Sh.int i64]/\(0:Nat)+nl=(0:Nat)+nl/\nl=(0:Nat)+nl/\ ∀y0:Nat,y0<(0:Nat)+nl-> ∀y1:Nat,y1<List.length [Sh.int i64]->fl y0 y1=fl y0 y1))/\((true&&(true&&Nat.ble ((0:Nat)+nl) (1000000:Nat)))=false->False)):=by kernel_rfl
 refine hvc.mpr ?_;clear hvc
 have hc:=Nat.le_of_ble_eq_true hc
 simp;exact hc
def LZ:List PT:=[.one (.int .i64),.one (.int .i64),.one (.int .i64)]
def UJ:List FD->Bool
 | [.int _ _,.int _ _,.int _ _]=>true
 | _=>false
def L0:List FD->List FD
 | [.int _ a,.int _ b,.int _ c]=>[.bool (decide (b<=a)&&decide (a<=c))]
 | _=>[]
def UK (_a _b _c:Int):Nat->bT:=aW (fun _=>[])
theorem V4:cT (mkR smB gs2) Try.prog η0 38 (FI.of Try.f38 true) LZ (.one .bool) UJ L0:=by
 refine aL u7 cA Try.fok38 (fun fds=>match fds with | [.int _ a,.int _ b,.int _ c]=>UK a b c | _=>aW fun _=>[]) ?_
 intro fds hf hc;obtain ⟨a,ds0,rfl,hf1⟩:=hf.int;obtain ⟨b,ds1,rfl,hf2⟩:=hf1.int;obtain ⟨c,ds2,rfl,hf3⟩:=hf2.int;obtain rfl:=hf3.nil
 have hc:(true)=true:=hc
 have hvc:(vcF smB gs2 (FI.of Try.f38 true) LZ (.one .bool) (UK a b c) noR [.int .i64 a,.int .i64 b,.int .i64 c] (L0 [.int .i64 a,.int .i64 b,.int .i64 c]))=
  (true=true/\(decide (a<b)=true->(decide (b<=a)&&decide (a<=c))=false)/\(decide (a<b)=false->(decide (b<=a)&&decide (a<=c))=(! (decide (c<a))))):=by kernel_rfl
 refine hvc.mpr ?_;clear hvc;clear hf hf1 hf2 hf3;simp;exact ⟨by omega,fun h=>by rw [decide_eq_true h];simp [←decide_not]⟩
def ZU:List PT:=[.one (.int .i64)]
def abC:List FD->Bool
 | [.int _ _]=>true
 | _=>false
def ZV:List FD->List FD
 | [.int _ a]=>[.int .i64 (if a<IntKind.i64.wrap (-a) then IntKind.i64.wrap (-a) else a)]
 | _=>[]
def abD (_a:Int):Nat->bT:=aW (fun _=>[])
theorem aa9:cT (mkR smB gs2) Try.prog η0 153 (FI.of Try.f153 true) ZU (.one (.int .i64)) abC ZV:=by
 refine aL u7 cA Try.fok153 (fun fds=>match fds with | [.int _ a]=>abD a | _=>aW fun _=>[]) ?_
 intro fds hf hc;obtain ⟨a,ds0,rfl,hf1⟩:=hf.int;obtain rfl:=hf1.nil
 have hc:(true)=true:=hc
 have hvc:(vcF smB gs2 (FI.of Try.f153 true) ZU (.one (.int .i64)) (abD a) noR [.int .i64 a] (ZV [.int .i64 a]))=
  (true=true/\i64=i64/\(if a<wrap i64 (-a) then wrap i64 (-a) else a)=if a<wrap i64 ((0:Int)-a) then wrap i64 ((0:Int)-a) else a):=by kernel_rfl
 refine hvc.mpr ?_;clear hvc;simp
def smC:T Smf:=(T.set (T.set smB 38 (some (gFd LZ (.one .bool) UJ L0))) 153 (some (gFd ZU (.one (.int .i64)) abC ZV)))
theorem SJ:Tab fC smC:=(Tab.set (Tab.set u7 (by kernel_rfl) (aV u7 cA V4 rfl)) (by kernel_rfl) (aV u7 cA aa9 rfl))
def adr:List PT:=[.one (.int .i64),.one (.int .i64)]
def aeM:List FD->Bool
 | [.int _ _,.int _ _]=>true
 | _=>false
def ads:List FD->List FD
 | [.int _ a,.int _ b]=>[.int .i64 (if aU a b<IntKind.i64.wrap (-aU a b) then IntKind.i64.wrap (-aU a b) else aU a b)]
 | _=>[]
def aeN (a b:Int):Nat->bT:=aW (fun _=>[{ι:=Int × Int,G:=fun x=>aU x.1 x.2=aU a b,μ:=fun x=>x.2.natAbs,tl:=fun x=>[(0,.one (.int i64 (.tm x.1))),(1,.one (.int i64 (.tm x.2)))],bl:=fun _=>[],nx:=1}])
theorem adt:cT (mkR smC gs2) Try.prog η0 140 (FI.of Try.f140 true) adr (.one (.int .i64)) aeM ads:=by
 refine aL SJ cA Try.fok140 (fun fds=>match fds with | [.int _ a,.int _ b]=>aeN a b | _=>aW fun _=>[]) ?_
 intro fds hf hc;obtain ⟨a,ds0,rfl,hf1⟩:=hf.int;obtain ⟨b,ds1,rfl,hf2⟩:=hf1.int;obtain rfl:=hf2.nil
 have hc:(true)=true:=hc
 have hvc:(vcF smC gs2 (FI.of Try.f140 true) adr (.one (.int .i64)) (aeN a b) noR [.int .i64 a,.int .i64 b] (ads [.int .i64 a,.int .i64 b]))=
  (true=true/\ ∃y0:Nat,(∃y1:Int×Int,(aU (Prod.fst y1) (snd y1)=aU a b/\True)/\(true=true/\(i64=i64/\Prod.fst y1=a)/\(i64=i64/\snd y1=b)/\True)/\True)/\ ∀y1:Int×Int,aU (Prod.fst y1) (snd y1)=aU a b->(decide (snd y1=(0:Int))=false->((! (decide (snd y1=(0:Int))))=true-> ∃y2:Int×Int,(aU (Prod.fst y2) (snd y2)=aU a b/\Int.natAbs (snd y2)<Int.natAbs (snd y1))/\(true=true/\(i64=i64/\Prod.fst y2=snd y1)/\(i64=i64/\snd y2=Int.tmod (Prod.fst y1) (snd y1))/\True)/\True)/\((! (decide (snd y1=(0:Int))))=false->False))/\(decide (snd y1=(0:Int))=true->(true=true->i64=i64/\(if aU a b<wrap i64 (-(aU a b)) then wrap i64 (-(aU a b)) else aU a b)=if Prod.fst y1<wrap i64 (-(Prod.fst y1)) then wrap i64 (-(Prod.fst y1)) else Prod.fst y1)/\(true=false->False))):=by kernel_rfl
 refine hvc.mpr ?_;clear hvc;clear hf hf1 hf2;simp;intro x y hg;refine ⟨fun h=>⟨fun _=>⟨by rw [←zA x h];exact hg,Nat.mod_lt _ (by omega)⟩,h⟩,fun h => ?_⟩
 subst h;rw [←hg,yZ]
end
end Go.Ex
namespace Go.Ex
open Go Go.Proofs Go.RowKit
open Go.IntKind (i64 wrap)
open Prod (snd)
noncomputable section
set_option maxRecDepth 1000000
def smD:T Smf:=(T.set smC 140 (some (gFd adr (.one (.int .i64)) aeM ads)))
theorem SK:Tab fC smD:=(Tab.set SJ (by kernel_rfl) (aV SJ cA adt rfl))
def gs3:G2:=(G2.setG gs2 20 (gFd zX (.one (.list [.int .i64])) oD zY))
theorem dU:cZ gs3:=(cZ.setG cA (by kernel_rfl) (oU u7 cA PR))
def L4:List PT:=[.one (.int .i64),.one (.int .i64)]
def UL:List FD->Bool
 | [.int _ a,.int _ b]=>(decide (0<=a)&&decide (a<=1000000000000000))&&(decide (0<b)&&decide (b<=1000000000000000))
 | _=>false
def L5:List FD->List FD
 | [.int _ a,.int _ b]=>[.int .i64 (pK a (aU a b)),.int .i64 (pK b (aU a b))]
 | _=>[]
def UM (_a _b:Int):Nat->bT:=aW (fun _=>[])
theorem V5:cT (mkR smD gs3) Try.prog η0 92 (FI.of Try.f92 true) L4 (.agg [.int .i64,.int .i64]) UL L5:=by
 refine aL SK dU Try.fok92 (fun fds=>match fds with | [.int _ a,.int _ b]=>UM a b | _=>aW fun _=>[]) ?_
 intro fds hf hc;obtain ⟨a,ds0,rfl,hf1⟩:=hf.int;obtain ⟨b,ds1,rfl,hf2⟩:=hf1.int;obtain rfl:=hf2.nil
 have hc:((decide (0<=a)&&decide (a<=1000000000000000))&&(decide (0<b)&&decide (b<=1000000000000000)))=true:=hc
 have hvc:(vcF smD gs3 (FI.of Try.f92 true) L4 (.agg [.int .i64,.int .i64]) (UM a b) noR [.int .i64 a,.int .i64 b] (L5 [.int .i64 a,.int .i64 b]))=
  (true=true/\(true=true->(decide (b<(0:Int))=true->((! (decide (wrap i64 ((0:Int)-if aU a b<wrap i64 (-(aU a b)) then wrap i64 (-(aU a b)) else aU a b)=(0:Int))))=true->((! (decide (wrap i64 ((0:Int)-if aU a b<wrap i64 (-(aU a b)) then wrap i64 (-(aU a b)) else aU a b)=(0:Int))))=true->(i64=i64/\pK a (aU a b)=wrap i64 (Int.tdiv a (wrap i64 ((0:Int)-if aU a b<wrap i64 (-(aU a b)) then wrap i64 (-(aU a b)) else aU a b))))/\(i64=i64/\pK b (aU a b)=wrap i64 (Int.tdiv b (wrap i64 ((0:Int)-if aU a b<wrap i64 (-(aU a b)) then wrap i64 (-(aU a b)) else aU a b))))/\True)/\((! (decide (wrap i64 ((0:Int)-if aU a b<wrap i64 (-(aU a b)) then wrap i64 (-(aU a b)) else aU a b)=(0:Int))))=false->False))/\((! (decide (wrap i64 ((0:Int)-if aU a b<wrap i64 (-(aU a b)) then wrap i64 (-(aU a b)) else aU a b)=(0:Int))))=false->False))/\(decide (b<(0:Int))=false->((! (decide ((if aU a b<wrap i64 (-(aU a b)) then wrap i64 (-(aU a b)) else aU a b)=(0:Int))))=true->((! (decide ((if aU a b<wrap i64 (-(aU a b)) then wrap i64 (-(aU a b)) else aU a b)=(0:Int))))=true->(i64=i64/\pK a (aU a b)=wrap i64 (Int.tdiv a (if aU a b<wrap i64 (-(aU a b)) then wrap i64 (-(aU a b)) else aU a b)))/\(i64=i64/\pK b (aU a b)=wrap i64 (Int.tdiv b (if aU a b<wrap i64 (-(aU a b)) then wrap i64 (-(aU a b)) else aU a b)))/\True)/\((! (decide ((if aU a b<wrap i64 (-(aU a b)) then wrap i64 (-(aU a b)) else aU a b)=(0:Int))))=false->False))/\((! (decide ((if aU a b<wrap i64 (-(aU a b)) then wrap i64 (-(aU a b)) else aU a b)=(0:Int))))=false->False)))/\(true=false->False)):=by kernel_rfl
 refine hvc.mpr ?_;clear hvc;simp only [Bool.and_eq_true,decide_eq_true_eq] at hc;obtain ⟨A,rfl⟩:=Int.eq_ofNat_of_zero_le hc.1.1;obtain ⟨B,rfl⟩:=Int.eq_ofNat_of_zero_le (show 0<=b by omega)
 have g1:=Nat.gcd_pos_of_pos_right A (show 0<B by omega)
 have g2:=Nat.gcd_le_right A (show 0<B by omega)
 simp only [nU]
 generalize Nat.gcd A B=g at *
 have e:(if (g:Int)<IntKind.i64.wrap (-(g:Int)) then IntKind.i64.wrap (-(g:Int)) else (g:Int))=g:=by
  rw [aO (by omega) (by omega),if_neg (by omega)]
 have e0 : ¬ g=0:=by omega
 have e1 : ¬ (B:Int)<0:=by omega
 simp [e,e0,e1,pK]
def smE:T Smf:=(T.set smD 92 (some (gFd L4 (.agg [.int .i64,.int .i64]) UL L5)))
theorem GM:Tab fC smE:=(Tab.set SK (by kernel_rfl) (aV SK dU V5 rfl))
end
end Go.Ex
