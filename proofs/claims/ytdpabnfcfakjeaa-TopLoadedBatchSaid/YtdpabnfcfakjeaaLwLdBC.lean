/-
 Contracts: lists of numbers; loads, and their copies.
-/
import Derived.Test.YtdpabnfcfakjeaaLwLdA
namespace Go.Ex
open Go Go.Proofs Go.RowKit
open Go.IntKind (i64 wrap)
open Int (ofNat toNat)
open Go.Ex.Ref (root)
open Go.Ex.Sh (int str)
open Go.Ex.FD (list)
noncomputable section
set_option maxRecDepth 1000000
def gO:T Smf:=(T.set (T.set smE 128 (some (gFd LM (.one .bool) fN LN))) 83 (some (gFd LO (.one .bool) fA LP)))
theorem b8:Tab fC gO:=(Tab.set (Tab.set GM (by kernel_rfl) (aV GM dU VY rfl)) (by kernel_rfl) (aV GM dU VZ rfl))
def kG (f:Nat->Nat->FD)(v:Int)(i:Nat):Bool:=decide ((f i 0).i=v)
def gL (n:Nat)(f:Nat->Nat->FD)(v:Int):Bool:=dK (kG f v) n 0
def aX (e:Nat->Int):Nat->Int
 | 0=>0
 | n+1=>if aX e n=0 then e n else aX e n
def uW (e:Nat->Int):Nat->Int
 | 0=>0
 | n+1=>if aX e n=0 then (if e n=0 then 0 else (n:Int)) else uW e n
theorem n6 {e:Nat->Int} {x:Nat} (h:aX e x=0) (hx:e x≠0) : ∀ {n:Nat},x<n->aX e n=e x/\uW e n=(x:Int)
 | n+1,hn=>by
  by_cases hxn:x=n
  ·subst hxn;simp only [aX,uW,h,if_true,if_neg hx];exact ⟨trivial,trivial⟩
  ·obtain ⟨h1,h2⟩:=n6 h hx (n:=n) (by omega)
   simp only [aX,uW,h1,if_neg hx];exact ⟨trivial,h2⟩
theorem sH {e:Nat->Int} {x:Nat} (h:aX e x=0) (hx:e x=0):aX e (x+1)=0:=by simp only [aX,h,if_true,hx]
theorem sI {e:Nat->Int} : ∀ {n:Nat},aX e n=0->uW e n=0
 | 0,_=>rfl
 | n+1,h=>by
  simp only [aX] at h;split at h
  ·rename_i h';simp only [uW,h',if_true,h]
  ·omega
theorem fE {e:Nat->Int} : ∀ {n:Nat},aX e n=0 -> ∀ i,i<n->e i=0
 | n+1,h,i,hi=>by
  simp only [aX] at h;split at h
  ·rename_i h'
   by_cases e:i=n
   ·subst e;exact h
   ·exact fE h' i (by omega)
  ·omega
theorem I0 {e e':Nat->Int} : ∀ {n:Nat},(∀ i,i<n->e i=e' i)->aX e n=aX e' n/\uW e n=uW e' n
 | 0,_=>⟨rfl,rfl⟩
 | n+1,h=>by
  obtain ⟨h1,h2⟩:=I0 (n:=n) fun i hi=>h i (by omega)
  simp only [aX,uW,h1,h2,h n (by omega)]
  exact ⟨trivial,trivial⟩
def LQ:List PT:=[.one (.list [.int .i64]),.one (.int .i64)]
def UD:List FD->Bool
 | [.list _ _ _,.int _ _]=>true
 | _=>false
def LR:List FD->List FD
 | [.list _ na fa,.int _ v]=>[.int .i64 (bE (kG fa v) na 0)]
 | _=>[]
def UE (na:Nat)(fa:Nat->Nat->FD)(v:Int):Nat->bT:=fun i=>match i with | 2=>⟨Nat,fun _=>[{ι:=Nat,G:=fun x=>x<=na/\bE (kG fa v) (na-x) x=bE (kG fa v) na 0,μ:=fun x=>na-x,tl:=fun x=>[(0,.one (.fz (.root 0 0) (list [int i64] na fa))),(1,.one (.int i64 (.tm v))),(4,.one (.int i64 (.lit (0:Int)))),(6,.one (.fz (.root 0 0) (list [int i64] na fa))),(7,.one (.int i64 (.tm (ofNat na)))),(8,.one (.int i64 (.tm (ofNat x))))],bl:=fun _=>[],nx:=(1:Nat)}]⟩ | _=>⟨Nat,fun _=>[]⟩
theorem V0:cT (mkR gO gs3) Try.prog η0 149 (FI.of Try.f149 true) LQ (.one (.int .i64)) UD LR:=by
 refine aL b8 dU Try.fok149 (fun fds=>match fds with | [.list _ na fa,.int _ v]=>UE na fa v | _=>aW fun _=>[]) ?_
 intro fds hf hc;obtain ⟨na,fa,ds0,rfl,ga,hf1⟩:=hf.list;obtain ⟨v,ds1,rfl,hf2⟩:=hf1.int;obtain rfl:=hf2.nil
 have hc:(true)=true:=hc
 have hvc:(vcF gO gs3 (FI.of Try.f149 true) LQ (.one (.int .i64)) (UE na fa v) noR [.list [.int .i64] na fa,.int .i64 v] (LR [.list [.int .i64] na fa,.int .i64 v]))=
  (true=true/\ ∃y0:Nat,(∃y1:Nat,((y1<=na/\bE (kG fa v) (na-y1) y1=bE (kG fa v) na (0:Nat))/\True)/\(true=true/\(root 0 0=root 0 0/\list [int i64] na fa=list [int i64] na fa/\true=true)/\(i64=i64/\v=v)/\(i64=i64/\(0:Int)=(0:Int))/\(root 0 0=root 0 0/\list [int i64] na fa=list [int i64] na fa/\true=true)/\(i64=i64/\ofNat na=ofNat na)/\(i64=i64/\ofNat y1=(0:Int))/\True)/\True)/\ ∀y1:Nat,y1<=na/\bE (kG fa v) (na-y1) y1=bE (kG fa v) na (0:Nat)->(decide (ofNat y1<ofNat na)=true->((decide ((0:Int)<=ofNat y1)&&decide (ofNat y1<(↑na:Int)))=true->(decide (v=FD.i (fa (toNat (ofNat y1)) (0:Nat)))=true->i64=i64/\bE (kG fa v) na (0:Nat)=ofNat y1)/\(decide (v=FD.i (fa (toNat (ofNat y1)) (0:Nat)))=false-> ∃y2:Nat,((y2<=na/\bE (kG fa v) (na-y2) y2=bE (kG fa v) na (0:Nat))/\na-y2<na-y1)/\(true=true/\(root 0 0=root 0 0/\list [int i64] na fa=list [int i64] na fa/\true=true)/\(i64=i64/\v=v)/\(i64=i64/\(0:Int)=(0:Int))/\(root 0 0=root 0 0/\list [int i64] na fa=list [int i64] na fa/\true=true)/\(i64=i64/\ofNat na=ofNat na)/\(i64=i64/\ofNat y2=wrap i64 (ofNat y1+(1:Int)))/\True)/\True))/\((decide ((0:Int)<=ofNat y1)&&decide (ofNat y1<(↑na:Int)))=false->False))/\(decide (ofNat y1<ofNat na)=false->i64=i64/\bE (kG fa v) na (0:Nat)=(-1:Int))):=by kernel_rfl
 refine hvc.mpr ?_;clear hvc
 have hl:=ga.len
 have hl':maxLen=9223372036854775807:=rfl
 simp;refine fun x hx he=>⟨fun h=>⟨fun _=>⟨fun ho => ?_,fun h0=>⟨x+1,⟨⟨by omega,?_⟩,by omega⟩,?_⟩⟩,h⟩,fun h => ?_⟩
 ·rw [←he,show na-x=na-(x+1)+1 by omega,bE,show kG fa v x=true by simp [kG];omega]
  rfl
 ·rw [←he,show na-x=na-(x+1)+1 by omega,bE,show kG fa v x=false by simp [kG];omega]
  rfl
 ·rw [aO (by omega) (by omega)]
  rfl
 ·rw [←he,show na-x=0 by omega]
  rfl
def adm:List PT:=[.one (.list [.int .i64]),.one (.int .i64)]
def aeJ:List FD->Bool
 | [.list _ _ _,.int _ _]=>true
 | _=>false
def adn:List FD->List FD
 | [.list _ na fa,.int _ v]=>[.bool (gL na fa v)]
 | _=>[]
def aeK (na:Nat)(fa:Nat->Nat->FD)(v:Int):Nat->bT:=fun i=>match i with | 2=>⟨Nat,fun _=>[{ι:=Nat,G:=fun x=>x<=na/\dK (kG fa v) (na-x) x=gL na fa v,μ:=fun x=>na-x,tl:=fun x=>[(0,.one (.fz (.root 0 0) (list [int i64] na fa))),(1,.one (.int i64 (.tm v))),(4,.one (.bool (.lit false))),(5,.one (.int i64 (.tm (ofNat x))))],bl:=fun _=>[],nx:=(1:Nat)}]⟩ | _=>⟨Nat,fun _=>[]⟩
theorem ado:cT (mkR gO gs3) Try.prog η0 96 (FI.of Try.f96 true) adm (.one .bool) aeJ adn:=by
 refine aL b8 dU Try.fok96 (fun fds=>match fds with | [.list _ na fa,.int _ v]=>aeK na fa v | _=>aW fun _=>[]) ?_
 intro fds hf hc;obtain ⟨na,fa,ds0,rfl,ga,hf1⟩:=hf.list;obtain ⟨v,ds1,rfl,hf2⟩:=hf1.int;obtain rfl:=hf2.nil
 have hc:(true)=true:=hc
 have hvc:(vcF gO gs3 (FI.of Try.f96 true) adm (.one .bool) (aeK na fa v) noR [.list [.int .i64] na fa,.int .i64 v] (adn [.list [.int .i64] na fa,.int .i64 v]))=
  (true=true/\ ∃y0:Nat,(∃y1:Nat,((y1<=na/\dK (kG fa v) (na-y1) y1=gL na fa v)/\True)/\(true=true/\(root 0 0=root 0 0/\list [int i64] na fa=list [int i64] na fa/\true=true)/\(i64=i64/\v=v)/\false=false/\(i64=i64/\ofNat y1=(0:Int))/\True)/\True)/\ ∀y1:Nat,y1<=na/\dK (kG fa v) (na-y1) y1=gL na fa v->(decide (ofNat y1<ofNat na)=true->((decide ((0:Int)<=ofNat y1)&&decide (ofNat y1<(↑na:Int)))=true->(decide (FD.i (fa (toNat (ofNat y1)) (0:Nat))=v)=true->gL na fa v=true)/\(decide (FD.i (fa (toNat (ofNat y1)) (0:Nat))=v)=false-> ∃y2:Nat,((y2<=na/\dK (kG fa v) (na-y2) y2=gL na fa v)/\na-y2<na-y1)/\(true=true/\(root 0 0=root 0 0/\list [int i64] na fa=list [int i64] na fa/\true=true)/\(i64=i64/\v=v)/\false=false/\(i64=i64/\ofNat y2=wrap i64 (ofNat y1+(1:Int)))/\True)/\True))/\((decide ((0:Int)<=ofNat y1)&&decide (ofNat y1<(↑na:Int)))=false->False))/\(decide (ofNat y1<ofNat na)=false->gL na fa v=false)):=by kernel_rfl
 refine hvc.mpr ?_;clear hvc
 have hl:=ga.len
 have hl':maxLen=9223372036854775807:=rfl
 simp;refine ⟨rfl,fun x hx he=>⟨fun h=>⟨fun _=>⟨fun ho => ?_,fun h0=>⟨x+1,⟨⟨by omega,?_⟩,by omega⟩,?_⟩⟩,h⟩,fun h => ?_⟩⟩
 ·rw [←he,show na-x=na-(x+1)+1 by omega,dK,show kG fa v x=true by simp [kG];omega]
  rfl
 ·rw [←he,show na-x=na-(x+1)+1 by omega,dK,show kG fa v x=false by simp [kG];omega]
  rfl
 ·rw [aO (by omega) (by omega)]
  rfl
 ·rw [←he,show na-x=0 by omega]
  rfl
def eU (f:Nat->Nat->FD)(c:Int)(i:Nat):Int:=if 0<=(f i 0).i/\(f i 0).i<=IntKind.i64.wrap (c-1) then (if 0<i/\(f i 0).i<=(f (i-1) 0).i then 10 else 0) else 6
theorem BT {f:Nat->Nat->FD} {c:Int} {n y:Nat} (hl:n<=9223372036854775807) (hy:y<n) (he:aX (eU f c) y=0):
  (¬ (0<=(f y 0).i/\(f y 0).i<=IntKind.i64.wrap (c-1))->aX (eU f c) n=6)/\(0<=(f y 0).i->(f y 0).i<=IntKind.i64.wrap (c-1)->0<y->(f y 0).i<=(f (y-1) 0).i->aX (eU f c) n=10)/\
  (0<=(f y 0).i->(f y 0).i<=IntKind.i64.wrap (c-1)->(0<y->(f (y-1) 0).i<(f y 0).i) -> ∃ y2,((y2<=n/\aX (eU f c) y2=0)/\n-y2<n-y)/\(y2:Int)=IntKind.i64.wrap ((y:Int)+1)):=by
 refine ⟨fun h => ?_,fun h1 h2 h3 h4 => ?_,fun h1 h2 h3=>⟨y+1,⟨⟨by omega,sH he ?_⟩,by omega⟩,by rw [aO (by omega) (by omega)];rfl⟩⟩
 ·have e:eU f c y=6:=if_neg h
  rw [(n6 he (by omega) hy).1,e]
 ·have e:eU f c y=10:=by rw [eU,if_pos ⟨h1,h2⟩,if_pos ⟨h3,h4⟩]
  rw [(n6 he (by omega) hy).1,e]
 ·rw [eU,if_pos ⟨h1,h2⟩,if_neg];rintro ⟨h4,h5⟩
  have:=h3 h4
  omega
theorem xB {y n:Nat} (hl:n<=9223372036854775807) (hy:y<n) (hp:0<y):IntKind.i64.wrap ((y:Int)-1)=((y-1:Nat):Int):=by rw [aO (by omega) (by omega)];omega
def GC:List PT:=[.one (.list [.int .i64]),.one (.int .i64)]
def PH:List FD->Bool
 | [.list _ _ _,.int _ _]=>true
 | _=>false
def GD:List FD->List FD
 | [.list _ na fa,.int _ c]=>[.int .i64 (aX (eU fa c) na)]
 | _=>[]
def PI (na:Nat)(fa:Nat->Nat->FD)(c:Int):Nat->bT:=fun i=>match i with | 2=>⟨Nat,fun _=>[{ι:=Nat,G:=fun x=>x<=na/\aX (eU fa c) x=0,μ:=fun x=>na-x,tl:=fun x=>[(0,.one (.fz (.root 0 0) (list [int i64] na fa))),(1,.one (.int i64 (.tm c))),(4,.one (.int i64 (.lit (0:Int)))),(5,.one (.int i64 (.tm (ofNat x))))],bl:=fun _=>[],nx:=(1:Nat)}]⟩ | _=>⟨Nat,fun _=>[]⟩
abbrev kY (na:Nat)(fa:Nat->Nat->FD)(c:Int)(y1:Nat):Prop := ∃y2:Nat,((y2<=na/\aX (eU fa c) y2=(0:Int))/\na-y2<na-y1)/\(true=true/\(root 0 0=root 0 0/\list [int i64] na fa=list [int i64] na fa/\true=true)/\(i64=i64/\c=c)/\(i64=i64/\(0:Int)=(0:Int))/\(i64=i64/\ofNat y2=wrap i64 (ofNat y1+(1:Int)))/\True)/\True
abbrev jI (na:Nat)(fa:Nat->Nat->FD)(c:Int)(y1:Nat):Prop:=decide ((0:Int)<ofNat y1)=false->(decide ((0:Int)<ofNat y1)=true->False)/\(decide ((0:Int)<ofNat y1)=false->(decide ((0:Int)<ofNat y1)=true->False)/\(decide ((0:Int)<ofNat y1)=false->kY na fa c y1))
abbrev jJ (na:Nat)(fa:Nat->Nat->FD)(c:Int)(y1:Nat):Prop:=decide ((0:Int)<ofNat y1)=false->(decide ((0:Int)<ofNat y1)=true->False)/\(decide ((0:Int)<ofNat y1)=false->(decide ((0:Int)<ofNat y1)=true->False)/\jI na fa c y1)
abbrev zU (na:Nat)(fa:Nat->Nat->FD)(c:Int)(y1:Nat):Prop:=decide ((0:Int)<ofNat y1)=false->(decide ((0:Int)<ofNat y1)=true->(decide ((0:Int)<ofNat y1)=true->(decide ((0:Int)<ofNat y1)=true->False)/\(decide ((0:Int)<ofNat y1)=false->(decide ((0:Int)<ofNat y1)=true->False)/\jI na fa c y1))/\jJ na fa c y1)/\(decide ((0:Int)<ofNat y1)=false->(decide ((0:Int)<ofNat y1)=true->False)/\jJ na fa c y1)
abbrev sJ (na:Nat)(fa:Nat->Nat->FD)(c:Int)(y1:Nat):Prop:=decide ((0:Int)<ofNat y1)=false->(decide ((0:Int)<ofNat y1)=true->(decide ((0:Int)<ofNat y1)=true->(decide ((0:Int)<ofNat y1)=true->(decide ((0:Int)<ofNat y1)=true->((decide ((0:Int)<=wrap i64 (ofNat y1-(1:Int)))&&decide (wrap i64 (ofNat y1-(1:Int))<(↑na:Int)))=true->(decide ((0:Int)<ofNat y1)=true->(decide ((0:Int)<ofNat y1)=true->False)/\(decide ((0:Int)<ofNat y1)=false->(decide ((0:Int)<ofNat y1)=true->False)/\(decide ((0:Int)<ofNat y1)=false->kY na fa c y1)))/\jI na fa c y1)/\((decide ((0:Int)<=wrap i64 (ofNat y1-(1:Int)))&&decide (wrap i64 (ofNat y1-(1:Int))<(↑na:Int)))=false->False))/\(decide ((0:Int)<ofNat y1)=false->(decide ((0:Int)<ofNat y1)=true->False)/\jI na fa c y1))/\jJ na fa c y1)/\(decide ((0:Int)<ofNat y1)=false->(decide ((0:Int)<ofNat y1)=true->False)/\jJ na fa c y1))/\zU na fa c y1
abbrev sK (na:Nat)(fa:Nat->Nat->FD)(c:Int)(y1:Nat):Prop:=(decide ((0:Int)<ofNat y1)=true->False)/\(decide ((0:Int)<ofNat y1)=false->(decide ((0:Int)<ofNat y1)=true->False)/\sJ na fa c y1)
theorem SE:cT (mkR gO gs3) Try.prog η0 97 (FI.of Try.f97 true) GC (.one (.int .i64)) PH GD:=by
 refine aL b8 dU Try.fok97 (fun fds=>match fds with | [.list _ na fa,.int _ c]=>PI na fa c | _=>aW fun _=>[]) ?_
 intro fds hf hc;obtain ⟨na,fa,ds0,rfl,ga,hf1⟩:=hf.list;obtain ⟨c,ds1,rfl,hf2⟩:=hf1.int;obtain rfl:=hf2.nil
 have hc:(true)=true:=hc
 have hvc:(vcF gO gs3 (FI.of Try.f97 true) GC (.one (.int .i64)) (PI na fa c) noR [.list [.int .i64] na fa,.int .i64 c] (GD [.list [.int .i64] na fa,.int .i64 c]))=
  (true=true/\ ∃y0:Nat,(∃y1:Nat,((y1<=na/\aX (eU fa c) y1=(0:Int))/\True)/\(true=true/\(root 0 0=root 0 0/\list [int i64] na fa=list [int i64] na fa/\true=true)/\(i64=i64/\c=c)/\(i64=i64/\(0:Int)=(0:Int))/\(i64=i64/\ofNat y1=(0:Int))/\True)/\True)/\ ∀y1:Nat,y1<=na/\aX (eU fa c) y1=(0:Int)->(decide (ofNat y1<ofNat na)=true->((decide ((0:Int)<=ofNat y1)&&decide (ofNat y1<(↑na:Int)))=true->(true=true->((decide ((0:Int)<=FD.i (fa (toNat (ofNat y1)) (0:Nat)))&&decide (FD.i (fa (toNat (ofNat y1)) (0:Nat))<=wrap i64 (c-(1:Int))))=false->i64=i64/\aX (eU fa c) na=(6:Int))/\((decide ((0:Int)<=FD.i (fa (toNat (ofNat y1)) (0:Nat)))&&decide (FD.i (fa (toNat (ofNat y1)) (0:Nat))<=wrap i64 (c-(1:Int))))=true->(decide ((0:Int)<ofNat y1)=true->(decide ((0:Int)<ofNat y1)=true->(decide ((0:Int)<ofNat y1)=true->((decide ((0:Int)<=ofNat y1)&&decide (ofNat y1<(↑na:Int)))=true->(decide ((0:Int)<ofNat y1)=true->(decide ((0:Int)<ofNat y1)=true->(decide ((0:Int)<ofNat y1)=true->(decide ((0:Int)<ofNat y1)=true->(decide ((0:Int)<ofNat y1)=true->((decide ((0:Int)<=wrap i64 (ofNat y1-(1:Int)))&&decide (wrap i64 (ofNat y1-(1:Int))<(↑na:Int)))=true->(decide ((0:Int)<ofNat y1)=true->(decide ((0:Int)<ofNat y1)=true->(decide ((0:Int)<ofNat y1)=true->(decide (FD.i (fa (toNat (wrap i64 (ofNat y1-(1:Int)))) (0:Nat))<FD.i (fa (toNat (ofNat y1)) (0:Nat)))=false->i64=i64/\aX (eU fa c) na=(10:Int))/\(decide (FD.i (fa (toNat (wrap i64 (ofNat y1-(1:Int)))) (0:Nat))<FD.i (fa (toNat (ofNat y1)) (0:Nat)))=true->kY na fa c y1))/\(decide ((0:Int)<ofNat y1)=false->kY na fa c y1))/\(decide ((0:Int)<ofNat y1)=false->(decide ((0:Int)<ofNat y1)=true->False)/\(decide ((0:Int)<ofNat y1)=false->kY na fa c y1)))/\jI na fa c y1)/\((decide ((0:Int)<=wrap i64 (ofNat y1-(1:Int)))&&decide (wrap i64 (ofNat y1-(1:Int))<(↑na:Int)))=false->False))/\(decide ((0:Int)<ofNat y1)=false->(decide ((0:Int)<ofNat y1)=true->False)/\jI na fa c y1))/\jJ na fa c y1)/\(decide ((0:Int)<ofNat y1)=false->(decide ((0:Int)<ofNat y1)=true->False)/\jJ na fa c y1))/\zU na fa c y1)/\sJ na fa c y1)/\((decide ((0:Int)<=ofNat y1)&&decide (ofNat y1<(↑na:Int)))=false->False))/\(decide ((0:Int)<ofNat y1)=false->(decide ((0:Int)<ofNat y1)=true->False)/\sJ na fa c y1))/\(decide ((0:Int)<ofNat y1)=false->sK na fa c y1))/\(decide ((0:Int)<ofNat y1)=false->(decide ((0:Int)<ofNat y1)=true->sK na fa c y1)/\(decide ((0:Int)<ofNat y1)=false->sK na fa c y1))))/\(true=false->False))/\((decide ((0:Int)<=ofNat y1)&&decide (ofNat y1<(↑na:Int)))=false->False))/\(decide (ofNat y1<ofNat na)=false->i64=i64/\aX (eU fa c) na=(0:Int))):=by kernel_rfl
 refine hvc.mpr ?_;clear hvc;dsimp only [kY,jI,jJ,zU,sJ,sK]
 have hl:=ga.len
 have hl':maxLen=9223372036854775807:=rfl
 simp;refine ⟨rfl,fun y hy he=>⟨fun hlt => ?_,fun hge=>by rw [show na=y by omega];exact he⟩⟩
 obtain ⟨a1,a2,a3⟩:=BT (by omega) hlt he
 by_cases h0:y=0
 ·subst h0;simp at a1 a2 a3;simp [hlt];exact ⟨a1,a3⟩
 ·have hp:0<y:=by omega
  have hw:=xB (by omega) hlt hp
  simp [h0,hp,hw,hlt];refine ⟨?_,?_⟩
  ·exact fun h=>a1 fun hh=>by have:=h hh.1;omega
  ·intro b1 b2;exact ⟨fun _=>⟨fun h=>a2 b1 b2 hp h,fun h=>a3 b1 b2 fun _=>h⟩,by omega⟩
def LT:List PT:=[.one (.list [.int .i64]),.one (.int .i64)]
def UF:List FD->Bool
 | [.list _ _ _,.int _ _]=>true
 | _=>false
def LU:List FD->List FD
 | [.list _ na fa,.int _ c]=>[.int .i64 (aX (eU fa c) na)]
 | _=>[]
def UG (na:Nat)(fa:Nat->Nat->FD)(c:Int):Nat->bT:=fun i=>match i with | 2=>⟨Nat,fun _=>[{ι:=Nat,G:=fun x=>x<=na/\aX (eU fa c) x=0,μ:=fun x=>na-x,tl:=fun x=>[(0,.one (.fz (.root 0 0) (list [int i64] na fa))),(1,.one (.int i64 (.tm c))),(4,.one (.int i64 (.lit (0:Int)))),(7,.one (.fz (.root 0 0) (list [int i64] na fa))),(8,.one (.int i64 (.tm (ofNat na)))),(9,.one (.int i64 (.tm (ofNat x))))],bl:=fun _=>[],nx:=(1:Nat)}]⟩ | _=>⟨Nat,fun _=>[]⟩
theorem V1:cT (mkR gO gs3) Try.prog η0 130 (FI.of Try.f130 true) LT (.one (.int .i64)) UF LU:=by
 refine aL b8 dU Try.fok130 (fun fds=>match fds with | [.list _ na fa,.int _ c]=>UG na fa c | _=>aW fun _=>[]) ?_
 intro fds hf hc;obtain ⟨na,fa,ds0,rfl,ga,hf1⟩:=hf.list;obtain ⟨c,ds1,rfl,hf2⟩:=hf1.int;obtain rfl:=hf2.nil
 have hc:(true)=true:=hc
 have hvc:(vcF gO gs3 (FI.of Try.f130 true) LT (.one (.int .i64)) (UG na fa c) noR [.list [.int .i64] na fa,.int .i64 c] (LU [.list [.int .i64] na fa,.int .i64 c]))=
  (true=true/\ ∃y0:Nat,(∃y1:Nat,((y1<=na/\aX (eU fa c) y1=(0:Int))/\True)/\(true=true/\(root 0 0=root 0 0/\list [int i64] na fa=list [int i64] na fa/\true=true)/\(i64=i64/\c=c)/\(i64=i64/\(0:Int)=(0:Int))/\(root 0 0=root 0 0/\list [int i64] na fa=list [int i64] na fa/\true=true)/\(i64=i64/\ofNat na=ofNat na)/\(i64=i64/\ofNat y1=(0:Int))/\True)/\True)/\ ∀y1:Nat,y1<=na/\aX (eU fa c) y1=(0:Int)->(decide (ofNat y1<ofNat na)=true->((decide ((0:Int)<=ofNat y1)&&decide (ofNat y1<(↑na:Int)))=true->(true=true->((decide ((0:Int)<=FD.i (fa (toNat (ofNat y1)) (0:Nat)))&&decide (FD.i (fa (toNat (ofNat y1)) (0:Nat))<=wrap i64 (c-(1:Int))))=false->i64=i64/\aX (eU fa c) na=(6:Int))/\((decide ((0:Int)<=FD.i (fa (toNat (ofNat y1)) (0:Nat)))&&decide (FD.i (fa (toNat (ofNat y1)) (0:Nat))<=wrap i64 (c-(1:Int))))=true->(decide ((0:Int)<ofNat y1)=true->((decide ((0:Int)<=wrap i64 (ofNat y1-(1:Int)))&&decide (wrap i64 (ofNat y1-(1:Int))<(↑na:Int)))=true->(decide (FD.i (fa (toNat (wrap i64 (ofNat y1-(1:Int)))) (0:Nat))<FD.i (fa (toNat (ofNat y1)) (0:Nat)))=false->i64=i64/\aX (eU fa c) na=(10:Int))/\(decide (FD.i (fa (toNat (wrap i64 (ofNat y1-(1:Int)))) (0:Nat))<FD.i (fa (toNat (ofNat y1)) (0:Nat)))=true-> ∃y2:Nat,((y2<=na/\aX (eU fa c) y2=(0:Int))/\na-y2<na-y1)/\(true=true/\(root 0 0=root 0 0/\list [int i64] na fa=list [int i64] na fa/\true=true)/\(i64=i64/\c=c)/\(i64=i64/\(0:Int)=(0:Int))/\(root 0 0=root 0 0/\list [int i64] na fa=list [int i64] na fa/\true=true)/\(i64=i64/\ofNat na=ofNat na)/\(i64=i64/\ofNat y2=wrap i64 (ofNat y1+(1:Int)))/\True)/\True))/\((decide ((0:Int)<=wrap i64 (ofNat y1-(1:Int)))&&decide (wrap i64 (ofNat y1-(1:Int))<(↑na:Int)))=false->False))/\(decide ((0:Int)<ofNat y1)=false-> ∃y2:Nat,((y2<=na/\aX (eU fa c) y2=(0:Int))/\na-y2<na-y1)/\(true=true/\(root 0 0=root 0 0/\list [int i64] na fa=list [int i64] na fa/\true=true)/\(i64=i64/\c=c)/\(i64=i64/\(0:Int)=(0:Int))/\(root 0 0=root 0 0/\list [int i64] na fa=list [int i64] na fa/\true=true)/\(i64=i64/\ofNat na=ofNat na)/\(i64=i64/\ofNat y2=wrap i64 (ofNat y1+(1:Int)))/\True)/\True)))/\(true=false->False))/\((decide ((0:Int)<=ofNat y1)&&decide (ofNat y1<(↑na:Int)))=false->False))/\(decide (ofNat y1<ofNat na)=false->i64=i64/\aX (eU fa c) na=(0:Int))):=by kernel_rfl
 refine hvc.mpr ?_;clear hvc
 have hl:=ga.len
 have hl':maxLen=9223372036854775807:=rfl
 simp;refine ⟨rfl,fun y hy he=>⟨fun hlt => ?_,fun hge=>by rw [show na=y by omega];exact he⟩⟩
 obtain ⟨a1,a2,a3⟩:=BT (by omega) hlt he
 by_cases h0:y=0
 ·subst h0;simp at a1 a2 a3;simp [hlt];exact ⟨a1,a3⟩
 ·have hp:0<y:=by omega
  have hw:=xB (by omega) hlt hp
  simp [h0,hp,hw,hlt];refine ⟨?_,?_⟩
  ·exact fun h=>a1 fun hh=>by have:=h hh.1;omega
  ·intro b1 b2;exact ⟨fun _=>⟨fun h=>a2 b1 b2 hp h,fun h=>a3 b1 b2 fun _=>h⟩,by omega⟩
end
end Go.Ex
namespace Go.Ex
open Go Go.Proofs Go.RowKit
open Go.IntKind (i64 wrap)
open Int (ofNat toNat)
open Go.Ex.Ref (root)
open Go.Ex.Sh (int str)
open Go.Ex.FD (list)
noncomputable section
set_option maxRecDepth 1000000
def V2:T Smf:=(T.set (T.set (T.set (T.set gO 149 (some (gFd LQ (.one (.int .i64)) UD LR))) 96 (some (gFd adm (.one .bool) aeJ adn))) 97 (some (gFd GC (.one (.int .i64)) PH GD))) 130 (some (gFd LT (.one (.int .i64)) UF LU)))
theorem xC:Tab fC V2:=(Tab.set (Tab.set (Tab.set (Tab.set b8 (by kernel_rfl) (aV b8 dU V0 rfl)) (by kernel_rfl) (aV b8 dU ado rfl)) (by kernel_rfl) (aV b8 dU SE rfl)) (by kernel_rfl) (aV b8 dU V1 rfl))
def zV:List PT:=[.one (.list [.int .i64]),.one (.int .i64)]
def I1:List FD->Bool
 | [.list _ _ _,.int _ _]=>true
 | _=>false
def zW:List FD->List FD
 | [.list _ na fa,.int _ v]=>[.bool (gL na fa v)]
 | _=>[]
def I2 (_na:Nat)(_fa:Nat->Nat->FD)(_v:Int):Nat->bT:=aW (fun _=>[])
theorem PJ:cT (mkR V2 gs3) Try.prog η0 129 (FI.of Try.f129 true) zV (.one .bool) I1 zW:=by
 refine aL xC dU Try.fok129 (fun fds=>match fds with | [.list _ na fa,.int _ v]=>I2 na fa v | _=>aW fun _=>[]) ?_
 intro fds hf hc;obtain ⟨na,fa,ds0,rfl,ga,hf1⟩:=hf.list;obtain ⟨v,ds1,rfl,hf2⟩:=hf1.int;obtain rfl:=hf2.nil
 have hc:(true)=true:=hc
 have hvc:(vcF V2 gs3 (FI.of Try.f129 true) zV (.one .bool) (I2 na fa v) noR [.list [.int .i64] na fa,.int .i64 v] (zW [.list [.int .i64] na fa,.int .i64 v]))=
  (true=true/\(true=true->gL na fa v=(! (decide (bE (kG fa v) na (0:Nat)<(0:Int)))))/\(true=false->False)):=by kernel_rfl
 refine hvc.mpr ?_;clear hvc
 have:=lL (kG fa v) na 0
 simp;rw [this,Bool.not_not];rfl
def fO (f:Nat->Nat->FD)(i:Nat):Bool:=Nat.ble (f i 0).s.length 20&&Nat.ble (f i 1).ln 12
def fX (n:Nat)(f:Nat->Nat->FD):Bool:=(Nat.ble n 10||(Nat.ble 25 n&&Nat.ble n 26))&&aH (fO f) n
theorem A0 (f:Nat->Nat->FD)(i:Nat):fO f i=true↔(f i 0).s.length<=20/\(f i 1).ln<=12:=by
 simp only [fO,Bool.and_eq_true,Nat.ble_eq]
theorem PK {n:Nat} {f:Nat->Nat->FD} (h : ¬ (n<=10∨(25<=n/\n<=26))):fX n f=false:=by
 have e:(Nat.ble n 10||(Nat.ble 25 n&&Nat.ble n 26))=false:=by
  rw [Bool.eq_false_iff];intro hh;simp only [Bool.or_eq_true,Bool.and_eq_true,Nat.ble_eq] at hh;exact h hh
 rw [fX,e];rfl
theorem PL {n y:Nat} {f:Nat->Nat->FD} (hy:y<n) (h : ¬ fO f y=true):fX n f=false:=by
 rw [fX,BS hy (by simpa using h),Bool.and_false]
def LV (f:Nat->Nat->FD)(i:Nat):Bool:=Nat.ble (f i 0).s.length 20&&Nat.ble (f i 1).ln 100
def mW (n:Nat)(f:Nat->Nat->FD):Bool:=Nat.ble n 26&&aH (LV f) n
theorem GE {n:Nat} {f:Nat->Nat->FD} (h:mW n f=true):n<=26 /\ ∀ i,i<n->(f i 0).s.length<=20/\(f i 1).ln<=100:=by
 simp only [mW,Bool.and_eq_true,Nat.ble_eq] at h;refine ⟨h.1,fun i hi => ?_⟩
 have:=bG h.2 i hi
 simpa only [LV,Bool.and_eq_true,Nat.ble_eq] using this
theorem ZP {n:Nat} {f:Nat->Nat->FD} (h:n<=26) (k : ∀ i,i<n->(f i 0).s.length<=20/\(f i 1).ln<=100):mW n f=true:=by
 rw [mW,Nat.ble_eq_true_of_le h,Bool.true_and];exact iK fun i hi=>by simpa only [LV,Bool.and_eq_true,Nat.ble_eq] using k i hi
def SF:List PT:=[.agg [.list [.str,.list [.int .i64]],.int .i64]]
def ZQ:List FD->Bool
 | [.list _ _ _,.int _ _]=>true
 | _=>false
def SG:List FD->List FD
 | [.list _ g l,.int _ _]=>[.bool (fX g l)]
 | _=>[]
def ZR (g:Nat)(l:Nat->Nat->FD)(pc:Int):Nat->bT:=fun i=>match i with | 4=>⟨Nat,fun _=>[{ι:=Nat,G:=fun x=>x<=g/\aH (fO l) x=true,μ:=fun x=>g-x,tl:=fun x=>[(0,.agg [.fz (.root 0 0) (list [str,Sh.list [int i64]] g l),.int i64 (.tm pc)]),(1,.one (.ptr (some (1,0)))),(2,.one (.bool (.lit false))),(3,.one (.int i64 (.tm (ofNat x))))],bl:=fun x=>[(1,.cells 35 2 [.fz (.root 0 0) (list [str,Sh.list [int i64]] g l),.int i64 (.tm pc)])],nx:=(1:Nat)+(1:Nat)}]⟩ | _=>⟨Nat,fun _=>[]⟩
theorem ZS:cT (mkR V2 gs3) Try.prog η0 22 (FI.of Try.f22 true) SF (.one .bool) ZQ SG:=by
 refine aL xC dU Try.fok22 (fun fds=>match fds with | [.list _ g l,.int _ pc]=>ZR g l pc | _=>aW fun _=>[]) ?_
 intro fds hf hc;obtain ⟨g,l,ds0,rfl,gps,hf1⟩:=hf.list;obtain ⟨pc,ds1,rfl,hf2⟩:=hf1.int;obtain rfl:=hf2.nil
 have hc:(true)=true:=hc
 have hvc:(vcF V2 gs3 (FI.of Try.f22 true) SF (.one .bool) (ZR g l pc) noR [.list [.str,.list [.int .i64]] g l,.int .i64 pc] (SG [.list [.str,.list [.int .i64]] g l,.int .i64 pc]))=
  (true=true/\(decide ((10:Int)<ofNat g)=true->(decide ((24:Int)<ofNat g)=true->(decide ((26:Int)<ofNat g)=true->fX g l=false)/\(decide ((26:Int)<ofNat g)=false-> ∃y0:Nat,(∃y1:Nat,((y1<=g/\aH (fO l) y1=true)/\True)/\(true=true/\((root 0 0=root 0 0/\list [str,Sh.list [int i64]] g l=list [str,Sh.list [int i64]] g l/\true=true)/\(i64=i64/\pc=pc)/\True)/\((1,1)∈([(1,1)]:List (Nat×Nat))/\0=0)/\false=false/\(i64=i64/\ofNat y1=(0:Int))/\True)/\((35:TypeId)=(35:Nat)/\2=2/\(root 0 0=root 0 0/\list [str,Sh.list [int i64]] g l=list [str,Sh.list [int i64]] g l/\true=true)/\(i64=i64/\pc=pc)/\True)/\True)/\ ∀y1:Nat,y1<=g/\aH (fO l) y1=true->(decide (ofNat y1<ofNat g)=true->((decide ((0:Int)<=ofNat y1)&&decide (ofNat y1<(↑g:Int)))=true->(decide ((20:Int)<ofNat (List.length (FD.s (l (toNat (ofNat y1)) ((0:Nat)+Field.offset {name:= "Name",type:=(9:Nat),offset:=(0:Nat),embedded:=false,tag:= "",pkgPath:= "",byteOffset:=(0:Nat)})))))=true->fX g l=false)/\(decide ((20:Int)<ofNat (List.length (FD.s (l (toNat (ofNat y1)) ((0:Nat)+Field.offset {name:= "Name",type:=(9:Nat),offset:=(0:Nat),embedded:=false,tag:= "",pkgPath:= "",byteOffset:=(0:Nat)})))))=false->((decide ((0:Int)<=ofNat y1)&&decide (ofNat y1<(↑g:Int)))=true->(decide ((12:Int)<ofNat (FD.ln (l (toNat (ofNat y1)) ((0:Nat)+Field.offset {name:= "Fits",type:=(22:Nat),offset:=(1:Nat),embedded:=false,tag:= "",pkgPath:= "",byteOffset:=(16:Nat)}))))=true->fX g l=false)/\(decide ((12:Int)<ofNat (FD.ln (l (toNat (ofNat y1)) ((0:Nat)+Field.offset {name:= "Fits",type:=(22:Nat),offset:=(1:Nat),embedded:=false,tag:= "",pkgPath:= "",byteOffset:=(16:Nat)}))))=false-> ∃y2:Nat,((y2<=g/\aH (fO l) y2=true)/\g-y2<g-y1)/\(true=true/\((root 0 0=root 0 0/\list [str,Sh.list [int i64]] g l=list [str,Sh.list [int i64]] g l/\true=true)/\(i64=i64/\pc=pc)/\True)/\((1,1)∈([(1,1)]:List (Nat×Nat))/\0=0)/\false=false/\(i64=i64/\ofNat y2=wrap i64 (ofNat y1+(1:Int)))/\True)/\((35:TypeId)=(35:TypeId)/\2=2/\(root 0 0=root 0 0/\list [str,Sh.list [int i64]] g l=list [str,Sh.list [int i64]] g l/\true=true)/\(i64=i64/\pc=pc)/\True)/\True))/\((decide ((0:Int)<=ofNat y1)&&decide (ofNat y1<(↑g:Int)))=false->False)))/\((decide ((0:Int)<=ofNat y1)&&decide (ofNat y1<(↑g:Int)))=false->False))/\(decide (ofNat y1<ofNat g)=false->fX g l=true)))/\(decide ((24:Int)<ofNat g)=false->fX g l=false))/\(decide ((10:Int)<ofNat g)=false->(decide ((26:Int)<ofNat g)=true->fX g l=false)/\(decide ((26:Int)<ofNat g)=false-> ∃y0:Nat,(∃y1:Nat,((y1<=g/\aH (fO l) y1=true)/\True)/\(true=true/\((root 0 0=root 0 0/\list [str,Sh.list [int i64]] g l=list [str,Sh.list [int i64]] g l/\true=true)/\(i64=i64/\pc=pc)/\True)/\((1,1)∈([(1,1)]:List (Nat×Nat))/\0=0)/\false=false/\(i64=i64/\ofNat y1=(0:Int))/\True)/\((35:TypeId)=(35:Nat)/\2=2/\(root 0 0=root 0 0/\list [str,Sh.list [int i64]] g l=list [str,Sh.list [int i64]] g l/\true=true)/\(i64=i64/\pc=pc)/\True)/\True)/\ ∀y1:Nat,y1<=g/\aH (fO l) y1=true->(decide (ofNat y1<ofNat g)=true->((decide ((0:Int)<=ofNat y1)&&decide (ofNat y1<(↑g:Int)))=true->(decide ((20:Int)<ofNat (List.length (FD.s (l (toNat (ofNat y1)) ((0:Nat)+Field.offset {name:= "Name",type:=(9:Nat),offset:=(0:Nat),embedded:=false,tag:= "",pkgPath:= "",byteOffset:=(0:Nat)})))))=true->fX g l=false)/\(decide ((20:Int)<ofNat (List.length (FD.s (l (toNat (ofNat y1)) ((0:Nat)+Field.offset {name:= "Name",type:=(9:Nat),offset:=(0:Nat),embedded:=false,tag:= "",pkgPath:= "",byteOffset:=(0:Nat)})))))=false->((decide ((0:Int)<=ofNat y1)&&decide (ofNat y1<(↑g:Int)))=true->(decide ((12:Int)<ofNat (FD.ln (l (toNat (ofNat y1)) ((0:Nat)+Field.offset {name:= "Fits",type:=(22:Nat),offset:=(1:Nat),embedded:=false,tag:= "",pkgPath:= "",byteOffset:=(16:Nat)}))))=true->fX g l=false)/\(decide ((12:Int)<ofNat (FD.ln (l (toNat (ofNat y1)) ((0:Nat)+Field.offset {name:= "Fits",type:=(22:Nat),offset:=(1:Nat),embedded:=false,tag:= "",pkgPath:= "",byteOffset:=(16:Nat)}))))=false-> ∃y2:Nat,((y2<=g/\aH (fO l) y2=true)/\g-y2<g-y1)/\(true=true/\((root 0 0=root 0 0/\list [str,Sh.list [int i64]] g l=list [str,Sh.list [int i64]] g l/\true=true)/\(i64=i64/\pc=pc)/\True)/\((1,1)∈([(1,1)]:List (Nat×Nat))/\0=0)/\false=false/\(i64=i64/\ofNat y2=wrap i64 (ofNat y1+(1:Int)))/\True)/\((35:TypeId)=(35:TypeId)/\2=2/\(root 0 0=root 0 0/\list [str,Sh.list [int i64]] g l=list [str,Sh.list [int i64]] g l/\true=true)/\(i64=i64/\pc=pc)/\True)/\True))/\((decide ((0:Int)<=ofNat y1)&&decide (ofNat y1<(↑g:Int)))=false->False)))/\((decide ((0:Int)<=ofNat y1)&&decide (ofNat y1<(↑g:Int)))=false->False))/\(decide (ofNat y1<ofNat g)=false->fX g l=true)))):=by kernel_rfl
 refine hvc.mpr ?_;clear hvc;simp
 have key : ∀ y,y<g->aH (fO l) y=true->(¬ ((l y 0).s.length<=20/\(l y 1).ln<=12)->fX g l=false)/\((l y 0).s.length<=20/\(l y 1).ln<=12->g<=26 -> ∃ y2,((y2<=g/\aH (fO l) y2=true)/\g-y2<g-y)/\(y2:Int)=IntKind.i64.wrap ((y:Int)+1)):=fun y hy ha=>
  ⟨fun h=>PL hy (by rw [A0];exact h),fun h hn=>⟨y+1,⟨⟨by omega,LL ha ((A0 l y).2 h)⟩,by omega⟩,by rw [aO (by omega) (by omega)];rfl⟩⟩
 have fin:(g<=10∨(25<=g/\g<=26))->aH (fO l) g=true->fX g l=true:=fun h ha=>by
  rw [fX,ha,Bool.and_true];simp only [Bool.or_eq_true,Bool.and_eq_true,Nat.ble_eq];exact h
 refine ⟨fun a=>⟨fun b=>⟨fun c=>PK (by omega),fun c=>⟨rfl,fun y hy ha => ?_⟩⟩,fun b=>PK (by omega)⟩,fun a=>⟨fun c=>by omega,fun c=>⟨rfl,fun y hy ha => ?_⟩⟩⟩
 all_goals
  refine ⟨fun hlt=>⟨fun _=>⟨fun h=>(key y hlt ha).1 (by omega),fun h=>⟨fun _=>⟨fun h'=>(key y hlt ha).1 (by omega),fun h'=>(key y hlt ha).2 (by omega) (by omega)⟩,hlt⟩⟩,hlt⟩,fun hge => ?_⟩
  have e:y=g:=by omega
  subst e;exact fin (by omega) ha
def PM:T Smf:=(T.set (T.set V2 129 (some (gFd zV (.one .bool) I1 zW))) 22 (some (gFd SF (.one .bool) ZQ SG)))
theorem kQ:Tab fC PM:=(Tab.set (Tab.set xC (by kernel_rfl) (aV xC dU PJ rfl)) (by kernel_rfl) (aV xC dU ZS rfl))
def sL:List PT:=[.agg [.list [.str,.list [.int .i64]],.int .i64]]
def kZ:List FD->Bool
 | [.list _ g l,.int _ _]=>mW g l
 | _=>false
def sM:List FD->List FD
 | [.list _ g l,.int _ pc]=>[.list [.str,.list [.int .i64]] g l,.int .i64 pc]
 | _=>[]
def I3 (g:Nat)(l:Nat->Nat->FD)(pc:Int):Nat->bT:=fun i=>match i with | 3=>⟨Nat,fun _=>[{ι:=Nat,G:=fun x=>x=0,μ:=fun x=>g-x,tl:=fun x=>[(0,.agg [.fz (.root 0 0) (list [str,Sh.list [int i64]] g l),.int i64 (.tm pc)]),(1,.one (.ptr (some (1,0)))),(2,.one (.ptr (some (2,0)))),(3,.one (.ptr (some (3,0)))),(4,.one (.int i64 (.tm (ofNat x))))],bl:=fun x=>[(1,.cells 35 2 [.fz (.root 0 0) (list [str,Sh.list [int i64]] g l),.int i64 (.tm pc)]),(2,.cells 35 2 [.slice none 0 (.known 0),.int i64 (.lit (0:Int))]),(3,.cells 35 2 [.slice none 0 (.known 0),.int i64 (.tm pc)])],nx:=(1:Nat)+(1:Nat)+(1:Nat)+(1:Nat)},{ι:=Nat,G:=fun x=>1<=x/\x<=g,μ:=fun x=>g-x,tl:=fun x=>[(0,.agg [.fz (.root 0 0) (list [str,Sh.list [int i64]] g l),.int i64 (.tm pc)]),(1,.one (.ptr (some (1,0)))),(2,.one (.ptr (some (2,0)))),(3,.one (.ptr (some (3,0)))),(4,.one (.int i64 (.tm (ofNat x))))],bl:=fun x=>[(1,.cells 35 2 [.fz (.root 0 0) (list [str,Sh.list [int i64]] g l),.int i64 (.tm pc)]),(2,.cells 35 2 [.slice none 0 (.known 0),.int i64 (.lit (0:Int))]),(3,.cells 35 2 [.own 4 x,.int i64 (.tm pc)]),(4,.row 143 [.str,.list [.int .i64]] x l)],nx:=5}]⟩ | _=>⟨Nat,fun _=>[]⟩
abbrev eN (g:Nat)(l:Nat->Nat->FD)(pc:Int):Prop:=(root 0 0=root 0 0/\list [str,Sh.list [int i64]] g l=list [str,Sh.list [int i64]] g l/\true=true)/\(i64=i64/\pc=pc)/\True
abbrev uX (g:Nat)(l:Nat->Nat->FD)(pc:Int)(y1:Nat):Prop := ∃y2:Nat,(y2=0/\g-y2<g-y1)/\(true=true/\eN g l pc/\((1,1)∈([(3,3),(2,2),(1,1)]:List (Nat×Nat))/\0=0)/\((2,2)∈([(3,3),(2,2),(1,1)]:List (Nat×Nat))/\0=0)/\((3,3)∈([(3,3),(2,2),(1,1)]:List (Nat×Nat))/\0=0)/\(i64=i64/\ofNat y2=wrap i64 (ofNat y1+(1:Int)))/\True)/\((35:TypeId)=(35:TypeId)/\2=2/\eN g l pc)/\((35:TypeId)=(35:TypeId)/\2=2/\(0=0/\0=0)/\(i64=i64/\(0:Int)=(0:Int))/\True)/\((35:TypeId)=(35:TypeId)/\2=2/\False/\(i64=i64/\pc=pc)/\True)/\True
abbrev uY (l:Nat->Nat->FD)(y1:Nat):Prop:=oD [list [int i64] (FD.ln (l (toNat (ofNat y1)) ((0:Nat)+Field.offset {name:= "Fits",type:=(22:Nat),offset:=(1:Nat),embedded:=false,tag:= "",pkgPath:= "",byteOffset:=(16:Nat)}))) (FD.fn (l (toNat (ofNat y1)) ((0:Nat)+Field.offset {name:= "Fits",type:=(22:Nat),offset:=(1:Nat),embedded:=false,tag:= "",pkgPath:= "",byteOffset:=(16:Nat)})))]=false->False
abbrev uZ (l:Nat->Nat->FD)(y1:Nat):Prop:=oD [list [int i64] (FD.ln (l (toNat (ofNat y1)) ((0:Nat)+Field.offset {name:= "Fits",type:=(22:Nat),offset:=(1:Nat),embedded:=false,tag:= "",pkgPath:= "",byteOffset:=(16:Nat)}))) (FD.fn (l (toNat (ofNat y1)) ((0:Nat)+Field.offset {name:= "Fits",type:=(22:Nat),offset:=(1:Nat),embedded:=false,tag:= "",pkgPath:= "",byteOffset:=(16:Nat)})))]=true
abbrev u0 (g:Nat)(l:Nat->Nat->FD)(pc:Int)(y1:Nat):Prop:=true=true/\eN g l pc/\((1,1)∈([(3,3),(2,2),(1,1)]:List (Nat×Nat))/\0=0)/\((2,2)∈([(3,3),(2,2),(1,1)]:List (Nat×Nat))/\0=0)/\((3,3)∈([(3,3),(2,2),(1,1)]:List (Nat×Nat))/\0=0)/\(i64=i64/\ofNat y1=(0:Int))/\True
theorem A1:cT (mkR PM gs3) Try.prog η0 24 (FI.of Try.f24 false) sL (.agg [.list [.str,.list [.int .i64]],.int .i64]) kZ sM:=by
 refine aL kQ dU Try.fok24 (fun fds=>match fds with | [.list _ g l,.int _ pc]=>I3 g l pc | _=>aW fun _=>[]) ?_
 intro fds hf hc;obtain ⟨g,l,ds0,rfl,gps,hf1⟩:=hf.list;obtain ⟨pc,ds1,rfl,hf2⟩:=hf1.int;obtain rfl:=hf2.nil
 have hc:(mW g l)=true:=hc
 have hvc:(vcF PM gs3 (FI.of Try.f24 false) sL (.agg [.list [.str,.list [.int .i64]],.int .i64]) (I3 g l pc) noR [.list [.str,.list [.int .i64]] g l,.int .i64 pc] (sM [.list [.str,.list [.int .i64]] g l,.int .i64 pc]))=
  (true=true/\ ∃y0:Nat,((∃y1:Nat,(y1=0/\True)/\u0 g l pc y1/\((35:TypeId)=(35:Nat)/\2=2/\eN g l pc)/\((35:TypeId)=(35:Nat)/\2=2/\(0=0/\0=0)/\(i64=i64/\(0:Int)=(0:Int))/\True)/\((35:TypeId)=(35:Nat)/\2=2/\(0=0/\0=0)/\(i64=i64/\pc=pc)/\True)/\True)∨ ∃y1:Nat,(((1:Nat)<=y1/\y1<=g)/\True)/\u0 g l pc y1/\((35:TypeId)=(35:Nat)/\2=2/\eN g l pc)/\((35:TypeId)=(35:Nat)/\2=2/\(0=0/\0=0)/\(i64=i64/\(0:Int)=(0:Int))/\True)/\((35:TypeId)=(35:Nat)/\2=2/\False/\(i64=i64/\pc=pc)/\True)/\False/\True)/\(∀y1:Nat,y1=0->(decide (ofNat y1<ofNat g)=true->((decide ((0:Int)<=ofNat y1)&&decide (ofNat y1<(↑g:Int)))=true->((decide ((0:Int)<=ofNat y1)&&decide (ofNat y1<(↑g:Int)))=true->(uZ l y1->(true=true->uX g l pc y1∨ ∃y2:Nat,(((1:Nat)<=y2/\y2<=g)/\g-y2<g-y1)/\(true=true/\eN g l pc/\((1,1)∈([(4,21),(3,3),(2,2),(1,1)]:List (Nat×Nat))/\0=0)/\((2,2)∈([(4,21),(3,3),(2,2),(1,1)]:List (Nat×Nat))/\0=0)/\((3,3)∈([(4,21),(3,3),(2,2),(1,1)]:List (Nat×Nat))/\0=0)/\(i64=i64/\ofNat y2=wrap i64 (ofNat y1+(1:Int)))/\True)/\((35:TypeId)=(35:TypeId)/\2=2/\eN g l pc)/\((35:TypeId)=(35:TypeId)/\2=2/\(0=0/\0=0)/\(i64=i64/\(0:Int)=(0:Int))/\True)/\((35:TypeId)=(35:TypeId)/\2=2/\((4,21)∈([(4,21),(3,3),(2,2),(1,1)]:List (Nat×Nat))/\y2=1)/\(i64=i64/\pc=pc)/\True)/\((143:TypeId)=(143:TypeId)/\[str,Sh.list [int i64]]=[str,Sh.list [int i64]]/\y2=1/\ ∀y3:Nat,y3<y2-> ∀y4:Nat,y4<List.length [str,Sh.list [int i64]]->l y3 y4=bD [FD.str (FD.s (l (toNat (ofNat y1)) ((0:Nat)+Field.offset {name:= "Name",type:=(9:Nat),offset:=(0:Nat),embedded:=false,tag:= "",pkgPath:= "",byteOffset:=(0:Nat)}))),list [int i64] (FD.ln (l (toNat (ofNat y1)) ((0:Nat)+Field.offset {name:= "Fits",type:=(22:Nat),offset:=(1:Nat),embedded:=false,tag:= "",pkgPath:= "",byteOffset:=(16:Nat)}))) (FD.fn (l (toNat (ofNat y1)) ((0:Nat)+Field.offset {name:= "Fits",type:=(22:Nat),offset:=(1:Nat),embedded:=false,tag:= "",pkgPath:= "",byteOffset:=(16:Nat)})))] y4)/\True)/\(true=false->False))/\uY l y1)/\((decide ((0:Int)<=ofNat y1)&&decide (ofNat y1<(↑g:Int)))=false->False))/\((decide ((0:Int)<=ofNat y1)&&decide (ofNat y1<(↑g:Int)))=false->False))/\(decide (ofNat y1<ofNat g)=false->g=0/\(i64=i64/\pc=pc)/\True))/\ ∀y1:Nat,(1:Nat)<=y1/\y1<=g->(decide (ofNat y1<ofNat g)=true->((decide ((0:Int)<=ofNat y1)&&decide (ofNat y1<(↑g:Int)))=true->((decide ((0:Int)<=ofNat y1)&&decide (ofNat y1<(↑g:Int)))=true->(uZ l y1->((Nat.beq y1 y1&&(true&&Nat.ble (y1+(1:Nat)) (1000000:Nat)))=true->uX g l pc y1∨ ∃y2:Nat,(((1:Nat)<=y2/\y2<=g)/\g-y2<g-y1)/\(true=true/\eN g l pc/\((1,1)∈([(4,22),(3,3),(2,2),(1,1)]:List (Nat×Nat))/\0=0)/\((2,2)∈([(4,22),(3,3),(2,2),(1,1)]:List (Nat×Nat))/\0=0)/\((3,3)∈([(4,22),(3,3),(2,2),(1,1)]:List (Nat×Nat))/\0=0)/\(i64=i64/\ofNat y2=wrap i64 (ofNat y1+(1:Int)))/\True)/\((35:TypeId)=(35:TypeId)/\2=2/\eN g l pc)/\((35:TypeId)=(35:TypeId)/\2=2/\(0=0/\0=0)/\(i64=i64/\(0:Int)=(0:Int))/\True)/\((35:TypeId)=(35:TypeId)/\2=2/\((4,22)∈([(4,22),(3,3),(2,2),(1,1)]:List (Nat×Nat))/\y2=y1+(1:Nat))/\(i64=i64/\pc=pc)/\True)/\((143:TypeId)=(143:TypeId)/\[str,Sh.list [int i64]]=[str,Sh.list [int i64]]/\y2=y1+(1:Nat)/\ ∀y3:Nat,y3<y2-> ∀y4:Nat,y4<List.length [str,Sh.list [int i64]]->l y3 y4=bif Nat.blt y3 y1 then l y3 y4 else bD [FD.str (FD.s (l (toNat (ofNat y1)) ((0:Nat)+Field.offset {name:= "Name",type:=(9:Nat),offset:=(0:Nat),embedded:=false,tag:= "",pkgPath:= "",byteOffset:=(0:Nat)}))),list [int i64] (FD.ln (l (toNat (ofNat y1)) ((0:Nat)+Field.offset {name:= "Fits",type:=(22:Nat),offset:=(1:Nat),embedded:=false,tag:= "",pkgPath:= "",byteOffset:=(16:Nat)}))) (FD.fn (l (toNat (ofNat y1)) ((0:Nat)+Field.offset {name:= "Fits",type:=(22:Nat),offset:=(1:Nat),embedded:=false,tag:= "",pkgPath:= "",byteOffset:=(16:Nat)})))] y4)/\True)/\((Nat.beq y1 y1&&(true&&Nat.ble (y1+(1:Nat)) (1000000:Nat)))=false->False))/\uY l y1)/\((decide ((0:Int)<=ofNat y1)&&decide (ofNat y1<(↑g:Int)))=false->False))/\((decide ((0:Int)<=ofNat y1)&&decide (ofNat y1<(↑g:Int)))=false->False))/\(decide (ofNat y1<ofNat g)=false->(1<=4/\[str,Sh.list [int i64]]=[str,Sh.list [int i64]]/\y1=y1/\g=y1/\ ∀y2:Nat,y2<y1-> ∀y3:Nat,y3<List.length [str,Sh.list [int i64]]->l y2 y3=l y2 y3)/\(i64=i64/\pc=pc)/\True)):=by kernel_rfl
 refine hvc.mpr ?_;clear hvc;dsimp only [eN,uX,uY,uZ,u0];obtain ⟨k1,k2⟩:=GE hc
 have hci : ∀ i,i<g->oD [.list [.int .i64] (l i 1).ln (l i 1).fn]=true:=fun i hi=>Nat.ble_eq_true_of_le (by have:=k2 i hi;omega)
 have hex : ∀ i,i<g -> ∀ j,j<2->l i j=bD [FD.str (l i 0).s,list [int i64] (l i 1).ln (l i 1).fn] j:=fun i hi j hj=>by
  have h0:=(gps.at hi (show 0<[str,Sh.list [int i64]].length by simp)).1
  have h1:=(gps.at hi (show 1<[str,Sh.list [int i64]].length by simp)).1
  rcases (show j=0∨j=1 by omega) with rfl | rfl
  ·exact h0.symm
  ·exact h1.symm
 simp;refine ⟨fun h=>⟨fun _=>⟨fun _=>⟨fun _=>⟨1,⟨⟨by omega,by omega⟩,by omega⟩,by rw [aO (by omega) (by omega)];rfl,rfl,fun y hy j hj => ?_⟩,hci 0 h⟩,h⟩,h⟩,fun x h1 h2=>⟨fun h=>⟨fun _=>⟨fun _=>⟨fun _=>⟨fun _=>⟨x+1,⟨⟨by omega,by omega⟩,by omega⟩,by rw [aO (by omega) (by omega)];rfl,rfl,fun y hy j hj => ?_⟩,by omega⟩,hci x h⟩,h⟩,h⟩,fun h=>by omega⟩⟩
 ·obtain rfl:y=0:=by omega
  exact hex 0 h j hj
 ·by_cases e:y=x
  ·subst e;rw [show Nat.blt y y=false by rw [Bool.eq_false_iff];exact fun h=>by have:=Nat.le_of_ble_eq_true h;omega]
   exact hex y h j hj
  ·rw [show Nat.blt y x=true from Nat.ble_eq_true_of_le (by omega)]
   rfl
end
end Go.Ex
