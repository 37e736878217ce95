/-
 Contracts: IndexFunc and ContainsFunc over closures that capture nothing.
-/
import Derived.Test.YtdpabnfcfakjeaaLwFd
namespace Go.Ex
open Go Go.Proofs Go.RowKit
open Go.IntKind (i64 wrap)
open Int (ofNat toNat)
open Go.Ex.Ref (root)
open Go.Ex.Sh (int)
open Go.Ex.FD (list)
noncomputable section
def sm3:T Smf:=(T.set sm2 113 (some (gFd RK (.one (.int .i64)) iW RL)))
theorem hO:Tab fC sm3:=(Tab.set RJ (by kernel_rfl) (aV RJ dQ YU rfl))
def bB (hi n:Int):Bool := !(decide (0<=n)&&decide (n<=hi))
theorem fI (p:Nat->Bool)(n x:Nat):bE p (n+1) x=bif p x then (x:Int) else bE p n (x+1):=rfl
def uH:List PT:=[.one (.list [.int .i64])]
def o5:Clo:=(87,[])
def ER:List FD->List FD->Bool
 | [.list _ _ _],[]=>true
 | _,_=>false
def uI:List FD->List FD->List FD
 | [.list _ na fa],[]=>[.int .i64 (bE (fun i=>bB 500000000 (fa i 0).i) na 0)]
 | _,_=>[]
def ES (na:Nat)(fa:Nat->Nat->FD):Nat->bT:=aW (fun _=>[{ι:=Nat,G:=fun x=>x<=na/\bE (fun i=>bB 500000000 (fa i 0).i) (na-x) x=bE (fun i=>bB 500000000 (fa i 0).i) na 0,μ:=fun x=>na-x,tl:=fun x=>[(0,.one (.fz (.root 0 0) (list [int i64] na fa))),(1,.one (.fn 87 [])),(6,.one (.fz (.root 0 0) (list [int i64] na fa))),(7,.one (.int i64 (.tm (ofNat na)))),(8,.one (.int i64 (.tm (ofNat x))))],bl:=fun _=>[],nx:=1}])
theorem KW:qB 139 (lK uH o5 (.one (.int .i64)) ER uI):=by
 refine jO hO dQ Try.fok139 (fun fds bds=>match fds,bds with | [.list _ na fa],[]=>ES na fa | _,_=>aW fun _=>[]) rfl rfl ?_
 intro fds bds hf hb hc;obtain ⟨na,fa,ds0,rfl,ga,hf1⟩:=hf.list;obtain rfl:=hf1.nil;obtain rfl:=hb.nil
 have hc:(true)=true:=hc
 have hvc:(vcH sm3 gs0 (FI.of Try.f139 true) uH o5 (.one (.int .i64)) (ES na fa) [.list [.int .i64] na fa] [] (uI [.list [.int .i64] na fa] []))=
  (true=true/\ ∃y0:Nat,(∃y1:Nat,((y1<=na/\bE (fun (i:Nat)=>bB (500000000:Int) (FD.i (fa i (0:Nat)))) (na-y1) y1=bE (fun (i:Nat)=>bB (500000000:Int) (FD.i (fa i (0:Nat)))) na (0:Nat))/\True)/\(true=true/\(root 0 0=root 0 0/\list [int i64] na fa=list [int i64] na fa/\true=true)/\((87:FuncId)=Prod.fst o5/\True)/\(root 0 0=root 0 0/\list [int i64] na fa=list [int i64] na fa/\true=true)/\(i64=i64/\ofNat na=ofNat na)/\(i64=i64/\ofNat y1=(0:Int))/\True)/\True)/\ ∀y1:Nat,y1<=na/\bE (fun (i:Nat)=>bB (500000000:Int) (FD.i (fa i (0:Nat)))) (na-y1) y1=bE (fun (i:Nat)=>bB (500000000:Int) (FD.i (fa i (0:Nat)))) na (0:Nat)->(decide (ofNat y1<ofNat na)=true->((decide ((0:Int)<=ofNat y1)&&decide (ofNat y1<(↑na:Int)))=true->(true=true->((decide ((0:Int)<=FD.i (fa (toNat (ofNat y1)) (0:Nat)))&&decide (FD.i (fa (toNat (ofNat y1)) (0:Nat))<=(500000000:Int)))=false->i64=i64/\bE (fun (i:Nat)=>bB (500000000:Int) (FD.i (fa i (0:Nat)))) na (0:Nat)=ofNat y1)/\((decide ((0:Int)<=FD.i (fa (toNat (ofNat y1)) (0:Nat)))&&decide (FD.i (fa (toNat (ofNat y1)) (0:Nat))<=(500000000:Int)))=true-> ∃y2:Nat,((y2<=na/\bE (fun (i:Nat)=>bB (500000000:Int) (FD.i (fa i (0:Nat)))) (na-y2) y2=bE (fun (i:Nat)=>bB (500000000:Int) (FD.i (fa i (0:Nat)))) na (0:Nat))/\na-y2<na-y1)/\(true=true/\(root 0 0=root 0 0/\list [int i64] na fa=list [int i64] na fa/\true=true)/\((87:FuncId)=(87:FuncId)/\True)/\(root 0 0=root 0 0/\list [int i64] na fa=list [int i64] na fa/\true=true)/\(i64=i64/\ofNat na=ofNat na)/\(i64=i64/\ofNat y2=wrap i64 (ofNat y1+(1:Int)))/\True)/\True))/\(true=false->False))/\((decide ((0:Int)<=ofNat y1)&&decide (ofNat y1<(↑na:Int)))=false->False))/\(decide (ofNat y1<ofNat na)=false->i64=i64/\bE (fun (i:Nat)=>bB (500000000:Int) (FD.i (fa i (0:Nat)))) na (0:Nat)=(-1:Int))):=by kernel_rfl
 refine hvc.mpr ?_;clear hvc
 have hl:=ga.len
 have hl':maxLen=9223372036854775807:=rfl
 simp;refine ⟨rfl,fun x hx he=>⟨fun h=>⟨fun _=>⟨fun ho => ?_,fun h0 h1=>⟨x+1,⟨⟨by omega,?_⟩,by omega⟩,?_⟩⟩,h⟩,fun h => ?_⟩⟩
 ·rw [←he,show na-x=na-(x+1)+1 by omega,fI,show bB 500000000 (fa x 0).i=true by simp [bB];omega]
  rfl
 ·rw [←he,show na-x=na-(x+1)+1 by omega,fI,show bB 500000000 (fa x 0).i=false by simp [bB];omega]
  rfl
 ·rw [aO (by omega) (by omega)]
  rfl
 ·rw [←he,show na-x=0 by omega]
  rfl
def ET:List PT:=[.one (.list [.int .i64])]
def wU:Clo:=(114,[])
def OM:List FD->List FD->Bool
 | [.list _ _ _],[]=>true
 | _,_=>false
def EU:List FD->List FD->List FD
 | [.list _ na fa],[]=>[.int .i64 (bE (fun i=>bB 100 (fa i 0).i) na 0)]
 | _,_=>[]
def ON (na:Nat)(fa:Nat->Nat->FD):Nat->bT:=aW (fun _=>[{ι:=Nat,G:=fun x=>x<=na/\bE (fun i=>bB 100 (fa i 0).i) (na-x) x=bE (fun i=>bB 100 (fa i 0).i) na 0,μ:=fun x=>na-x,tl:=fun x=>[(0,.one (.fz (.root 0 0) (list [int i64] na fa))),(1,.one (.fn 114 [])),(6,.one (.fz (.root 0 0) (list [int i64] na fa))),(7,.one (.int i64 (.tm (ofNat na)))),(8,.one (.int i64 (.tm (ofNat x))))],bl:=fun _=>[],nx:=1}])
theorem RN:qB 139 (lK ET wU (.one (.int .i64)) OM EU):=by
 refine jO hO dQ Try.fok139 (fun fds bds=>match fds,bds with | [.list _ na fa],[]=>ON na fa | _,_=>aW fun _=>[]) rfl rfl ?_
 intro fds bds hf hb hc;obtain ⟨na,fa,ds0,rfl,ga,hf1⟩:=hf.list;obtain rfl:=hf1.nil;obtain rfl:=hb.nil
 have hc:(true)=true:=hc
 have hvc:(vcH sm3 gs0 (FI.of Try.f139 true) ET wU (.one (.int .i64)) (ON na fa) [.list [.int .i64] na fa] [] (EU [.list [.int .i64] na fa] []))=
  (true=true/\ ∃y0:Nat,(∃y1:Nat,((y1<=na/\bE (fun (i:Nat)=>bB (100:Int) (FD.i (fa i (0:Nat)))) (na-y1) y1=bE (fun (i:Nat)=>bB (100:Int) (FD.i (fa i (0:Nat)))) na (0:Nat))/\True)/\(true=true/\(root 0 0=root 0 0/\list [int i64] na fa=list [int i64] na fa/\true=true)/\((114:FuncId)=Prod.fst wU/\True)/\(root 0 0=root 0 0/\list [int i64] na fa=list [int i64] na fa/\true=true)/\(i64=i64/\ofNat na=ofNat na)/\(i64=i64/\ofNat y1=(0:Int))/\True)/\True)/\ ∀y1:Nat,y1<=na/\bE (fun (i:Nat)=>bB (100:Int) (FD.i (fa i (0:Nat)))) (na-y1) y1=bE (fun (i:Nat)=>bB (100:Int) (FD.i (fa i (0:Nat)))) na (0:Nat)->(decide (ofNat y1<ofNat na)=true->((decide ((0:Int)<=ofNat y1)&&decide (ofNat y1<(↑na:Int)))=true->(true=true->((decide ((0:Int)<=FD.i (fa (toNat (ofNat y1)) (0:Nat)))&&decide (FD.i (fa (toNat (ofNat y1)) (0:Nat))<=(100:Int)))=false->i64=i64/\bE (fun (i:Nat)=>bB (100:Int) (FD.i (fa i (0:Nat)))) na (0:Nat)=ofNat y1)/\((decide ((0:Int)<=FD.i (fa (toNat (ofNat y1)) (0:Nat)))&&decide (FD.i (fa (toNat (ofNat y1)) (0:Nat))<=(100:Int)))=true-> ∃y2:Nat,((y2<=na/\bE (fun (i:Nat)=>bB (100:Int) (FD.i (fa i (0:Nat)))) (na-y2) y2=bE (fun (i:Nat)=>bB (100:Int) (FD.i (fa i (0:Nat)))) na (0:Nat))/\na-y2<na-y1)/\(true=true/\(root 0 0=root 0 0/\list [int i64] na fa=list [int i64] na fa/\true=true)/\((114:FuncId)=(114:FuncId)/\True)/\(root 0 0=root 0 0/\list [int i64] na fa=list [int i64] na fa/\true=true)/\(i64=i64/\ofNat na=ofNat na)/\(i64=i64/\ofNat y2=wrap i64 (ofNat y1+(1:Int)))/\True)/\True))/\(true=false->False))/\((decide ((0:Int)<=ofNat y1)&&decide (ofNat y1<(↑na:Int)))=false->False))/\(decide (ofNat y1<ofNat na)=false->i64=i64/\bE (fun (i:Nat)=>bB (100:Int) (FD.i (fa i (0:Nat)))) na (0:Nat)=(-1:Int))):=by kernel_rfl
 refine hvc.mpr ?_;clear hvc
 have hl:=ga.len
 have hl':maxLen=9223372036854775807:=rfl
 simp;refine ⟨rfl,fun x hx he=>⟨fun h=>⟨fun _=>⟨fun ho => ?_,fun h0 h1=>⟨x+1,⟨⟨by omega,?_⟩,by omega⟩,?_⟩⟩,h⟩,fun h => ?_⟩⟩
 ·rw [←he,show na-x=na-(x+1)+1 by omega,fI,show bB 100 (fa x 0).i=true by simp [bB];omega]
  rfl
 ·rw [←he,show na-x=na-(x+1)+1 by omega,fI,show bB 100 (fa x 0).i=false by simp [bB];omega]
  rfl
 ·rw [aO (by omega) (by omega)]
  rfl
 ·rw [←he,show na-x=0 by omega]
  rfl
def zB:List PT:=[.one (.list [.int .i64])]
def sD:Clo:=(98,[])
def IM:List FD->List FD->Bool
 | [.list _ _ _],[]=>true
 | _,_=>false
def zC:List FD->List FD->List FD
 | [.list _ na fa],[]=>[.int .i64 (bE (fun i=>bB 2 (fa i 0).i) na 0)]
 | _,_=>[]
def IP (na:Nat)(fa:Nat->Nat->FD):Nat->bT:=aW (fun _=>[{ι:=Nat,G:=fun x=>x<=na/\bE (fun i=>bB 2 (fa i 0).i) (na-x) x=bE (fun i=>bB 2 (fa i 0).i) na 0,μ:=fun x=>na-x,tl:=fun x=>[(0,.one (.fz (.root 0 0) (list [int i64] na fa))),(1,.one (.fn 98 [])),(6,.one (.fz (.root 0 0) (list [int i64] na fa))),(7,.one (.int i64 (.tm (ofNat na)))),(8,.one (.int i64 (.tm (ofNat x))))],bl:=fun _=>[],nx:=1}])
theorem OO:qB 139 (lK zB sD (.one (.int .i64)) IM zC):=by
 refine jO hO dQ Try.fok139 (fun fds bds=>match fds,bds with | [.list _ na fa],[]=>IP na fa | _,_=>aW fun _=>[]) rfl rfl ?_
 intro fds bds hf hb hc;obtain ⟨na,fa,ds0,rfl,ga,hf1⟩:=hf.list;obtain rfl:=hf1.nil;obtain rfl:=hb.nil
 have hc:(true)=true:=hc
 have hvc:(vcH sm3 gs0 (FI.of Try.f139 true) zB sD (.one (.int .i64)) (IP na fa) [.list [.int .i64] na fa] [] (zC [.list [.int .i64] na fa] []))=
  (true=true/\ ∃y0:Nat,(∃y1:Nat,((y1<=na/\bE (fun (i:Nat)=>bB (2:Int) (FD.i (fa i (0:Nat)))) (na-y1) y1=bE (fun (i:Nat)=>bB (2:Int) (FD.i (fa i (0:Nat)))) na (0:Nat))/\True)/\(true=true/\(root 0 0=root 0 0/\list [int i64] na fa=list [int i64] na fa/\true=true)/\((98:FuncId)=Prod.fst sD/\True)/\(root 0 0=root 0 0/\list [int i64] na fa=list [int i64] na fa/\true=true)/\(i64=i64/\ofNat na=ofNat na)/\(i64=i64/\ofNat y1=(0:Int))/\True)/\True)/\ ∀y1:Nat,y1<=na/\bE (fun (i:Nat)=>bB (2:Int) (FD.i (fa i (0:Nat)))) (na-y1) y1=bE (fun (i:Nat)=>bB (2:Int) (FD.i (fa i (0:Nat)))) na (0:Nat)->(decide (ofNat y1<ofNat na)=true->((decide ((0:Int)<=ofNat y1)&&decide (ofNat y1<(↑na:Int)))=true->(true=true->((decide ((0:Int)<=FD.i (fa (toNat (ofNat y1)) (0:Nat)))&&decide (FD.i (fa (toNat (ofNat y1)) (0:Nat))<=(2:Int)))=false->i64=i64/\bE (fun (i:Nat)=>bB (2:Int) (FD.i (fa i (0:Nat)))) na (0:Nat)=ofNat y1)/\((decide ((0:Int)<=FD.i (fa (toNat (ofNat y1)) (0:Nat)))&&decide (FD.i (fa (toNat (ofNat y1)) (0:Nat))<=(2:Int)))=true-> ∃y2:Nat,((y2<=na/\bE (fun (i:Nat)=>bB (2:Int) (FD.i (fa i (0:Nat)))) (na-y2) y2=bE (fun (i:Nat)=>bB (2:Int) (FD.i (fa i (0:Nat)))) na (0:Nat))/\na-y2<na-y1)/\(true=true/\(root 0 0=root 0 0/\list [int i64] na fa=list [int i64] na fa/\true=true)/\((98:FuncId)=(98:FuncId)/\True)/\(root 0 0=root 0 0/\list [int i64] na fa=list [int i64] na fa/\true=true)/\(i64=i64/\ofNat na=ofNat na)/\(i64=i64/\ofNat y2=wrap i64 (ofNat y1+(1:Int)))/\True)/\True))/\(true=false->False))/\((decide ((0:Int)<=ofNat y1)&&decide (ofNat y1<(↑na:Int)))=false->False))/\(decide (ofNat y1<ofNat na)=false->i64=i64/\bE (fun (i:Nat)=>bB (2:Int) (FD.i (fa i (0:Nat)))) na (0:Nat)=(-1:Int))):=by kernel_rfl
 refine hvc.mpr ?_;clear hvc
 have hl:=ga.len
 have hl':maxLen=9223372036854775807:=rfl
 simp;refine ⟨rfl,fun x hx he=>⟨fun h=>⟨fun _=>⟨fun ho => ?_,fun h0 h1=>⟨x+1,⟨⟨by omega,?_⟩,by omega⟩,?_⟩⟩,h⟩,fun h => ?_⟩⟩
 ·rw [←he,show na-x=na-(x+1)+1 by omega,fI,show bB 2 (fa x 0).i=true by simp [bB];omega]
  rfl
 ·rw [←he,show na-x=na-(x+1)+1 by omega,fI,show bB 2 (fa x 0).i=false by simp [bB];omega]
  rfl
 ·rw [aO (by omega) (by omega)]
  rfl
 ·rw [←he,show na-x=0 by omega]
  rfl
def EV:List PT:=[.one (.list [.int .i64])]
def wV:Clo:=(123,[])
def OP:List FD->List FD->Bool
 | [.list _ _ _],[]=>true
 | _,_=>false
def EW:List FD->List FD->List FD
 | [.list _ na fa],[]=>[.int .i64 (bE (fun i=>bB 100 (fa i 0).i) na 0)]
 | _,_=>[]
def OQ (na:Nat)(fa:Nat->Nat->FD):Nat->bT:=aW (fun _=>[{ι:=Nat,G:=fun x=>x<=na/\bE (fun i=>bB 100 (fa i 0).i) (na-x) x=bE (fun i=>bB 100 (fa i 0).i) na 0,μ:=fun x=>na-x,tl:=fun x=>[(0,.one (.fz (.root 0 0) (list [int i64] na fa))),(1,.one (.fn 123 [])),(6,.one (.fz (.root 0 0) (list [int i64] na fa))),(7,.one (.int i64 (.tm (ofNat na)))),(8,.one (.int i64 (.tm (ofNat x))))],bl:=fun _=>[],nx:=1}])
theorem RO:qB 139 (lK EV wV (.one (.int .i64)) OP EW):=by
 refine jO hO dQ Try.fok139 (fun fds bds=>match fds,bds with | [.list _ na fa],[]=>OQ na fa | _,_=>aW fun _=>[]) rfl rfl ?_
 intro fds bds hf hb hc;obtain ⟨na,fa,ds0,rfl,ga,hf1⟩:=hf.list;obtain rfl:=hf1.nil;obtain rfl:=hb.nil
 have hc:(true)=true:=hc
 have hvc:(vcH sm3 gs0 (FI.of Try.f139 true) EV wV (.one (.int .i64)) (OQ na fa) [.list [.int .i64] na fa] [] (EW [.list [.int .i64] na fa] []))=
  (true=true/\ ∃y0:Nat,(∃y1:Nat,((y1<=na/\bE (fun (i:Nat)=>bB (100:Int) (FD.i (fa i (0:Nat)))) (na-y1) y1=bE (fun (i:Nat)=>bB (100:Int) (FD.i (fa i (0:Nat)))) na (0:Nat))/\True)/\(true=true/\(root 0 0=root 0 0/\list [int i64] na fa=list [int i64] na fa/\true=true)/\((123:FuncId)=Prod.fst wV/\True)/\(root 0 0=root 0 0/\list [int i64] na fa=list [int i64] na fa/\true=true)/\(i64=i64/\ofNat na=ofNat na)/\(i64=i64/\ofNat y1=(0:Int))/\True)/\True)/\ ∀y1:Nat,y1<=na/\bE (fun (i:Nat)=>bB (100:Int) (FD.i (fa i (0:Nat)))) (na-y1) y1=bE (fun (i:Nat)=>bB (100:Int) (FD.i (fa i (0:Nat)))) na (0:Nat)->(decide (ofNat y1<ofNat na)=true->((decide ((0:Int)<=ofNat y1)&&decide (ofNat y1<(↑na:Int)))=true->(true=true->((decide ((0:Int)<=FD.i (fa (toNat (ofNat y1)) (0:Nat)))&&decide (FD.i (fa (toNat (ofNat y1)) (0:Nat))<=(100:Int)))=false->i64=i64/\bE (fun (i:Nat)=>bB (100:Int) (FD.i (fa i (0:Nat)))) na (0:Nat)=ofNat y1)/\((decide ((0:Int)<=FD.i (fa (toNat (ofNat y1)) (0:Nat)))&&decide (FD.i (fa (toNat (ofNat y1)) (0:Nat))<=(100:Int)))=true-> ∃y2:Nat,((y2<=na/\bE (fun (i:Nat)=>bB (100:Int) (FD.i (fa i (0:Nat)))) (na-y2) y2=bE (fun (i:Nat)=>bB (100:Int) (FD.i (fa i (0:Nat)))) na (0:Nat))/\na-y2<na-y1)/\(true=true/\(root 0 0=root 0 0/\list [int i64] na fa=list [int i64] na fa/\true=true)/\((123:FuncId)=(123:FuncId)/\True)/\(root 0 0=root 0 0/\list [int i64] na fa=list [int i64] na fa/\true=true)/\(i64=i64/\ofNat na=ofNat na)/\(i64=i64/\ofNat y2=wrap i64 (ofNat y1+(1:Int)))/\True)/\True))/\(true=false->False))/\((decide ((0:Int)<=ofNat y1)&&decide (ofNat y1<(↑na:Int)))=false->False))/\(decide (ofNat y1<ofNat na)=false->i64=i64/\bE (fun (i:Nat)=>bB (100:Int) (FD.i (fa i (0:Nat)))) na (0:Nat)=(-1:Int))):=by kernel_rfl
 refine hvc.mpr ?_;clear hvc
 have hl:=ga.len
 have hl':maxLen=9223372036854775807:=rfl
 simp;refine ⟨rfl,fun x hx he=>⟨fun h=>⟨fun _=>⟨fun ho => ?_,fun h0 h1=>⟨x+1,⟨⟨by omega,?_⟩,by omega⟩,?_⟩⟩,h⟩,fun h => ?_⟩⟩
 ·rw [←he,show na-x=na-(x+1)+1 by omega,fI,show bB 100 (fa x 0).i=true by simp [bB];omega]
  rfl
 ·rw [←he,show na-x=na-(x+1)+1 by omega,fI,show bB 100 (fa x 0).i=false by simp [bB];omega]
  rfl
 ·rw [aO (by omega) (by omega)]
  rfl
 ·rw [←he,show na-x=0 by omega]
  rfl
def gs1:G2:=(G2.setH gs0 139 (NN 87 (lK uH o5 (.one (.int .i64)) ER uI) (NN 114 (lK ET wU (.one (.int .i64)) OM EU) (NN 98 (lK zB sD (.one (.int .i64)) IM zC) (lK EV wV (.one (.int .i64)) OP EW)))))
theorem EX:cZ gs1:=(cZ.setH dQ (by kernel_rfl) (sA KW (sA RN (sA OO RO))))
def uJ:List PT:=[.one (.list [.int .i64])]
def uK:Clo:=(87,[])
def EY:List FD->List FD->Bool
 | [.list _ _ _],[]=>true
 | _,_=>false
def uL:List FD->List FD->List FD
 | [.list _ na fa],[]=>[.bool (dK (fun i=>bB 500000000 (fa i 0).i) na 0)]
 | _,_=>[]
def EZ (_na:Nat)(_fa:Nat->Nat->FD):Nat->bT:=aW (fun _=>[])
theorem KY:qB 86 (lK uJ uK (.one .bool) EY uL):=by
 refine jO hO EX Try.fok86 (fun fds bds=>match fds,bds with | [.list _ na fa],[]=>EZ na fa | _,_=>aW fun _=>[]) rfl rfl ?_
 intro fds bds hf hb hc;obtain ⟨na,fa,ds0,rfl,ga,hf1⟩:=hf.list;obtain rfl:=hf1.nil;obtain rfl:=hb.nil
 have hc:(true)=true:=hc
 have hvc:(vcH sm3 gs1 (FI.of Try.f86 true) uJ uK (.one .bool) (EZ na fa) [.list [.int .i64] na fa] [] (uL [.list [.int .i64] na fa] []))=
  (true=true/\(true=true->dK (fun (i:Nat)=>bB (500000000:Int) (FD.i (fa i (0:Nat)))) na (0:Nat)=(! (decide (bE (fun (i:Nat)=>bB (500000000:Int) (FD.i (fa i (0:Nat)))) na (0:Nat)<(0:Int)))))/\(true=false->False)):=by kernel_rfl
 refine hvc.mpr ?_;clear hvc
 have:=lL (fun i=>bB 500000000 (fa i 0).i) na 0
 simp;rw [this,Bool.not_not]
def E4:List PT:=[.one (.list [.int .i64])]
def E5:Clo:=(114,[])
def OS:List FD->List FD->Bool
 | [.list _ _ _],[]=>true
 | _,_=>false
def E6:List FD->List FD->List FD
 | [.list _ na fa],[]=>[.bool (dK (fun i=>bB 100 (fa i 0).i) na 0)]
 | _,_=>[]
def OT (_na:Nat)(_fa:Nat->Nat->FD):Nat->bT:=aW (fun _=>[])
theorem RP:qB 86 (lK E4 E5 (.one .bool) OS E6):=by
 refine jO hO EX Try.fok86 (fun fds bds=>match fds,bds with | [.list _ na fa],[]=>OT na fa | _,_=>aW fun _=>[]) rfl rfl ?_
 intro fds bds hf hb hc;obtain ⟨na,fa,ds0,rfl,ga,hf1⟩:=hf.list;obtain rfl:=hf1.nil;obtain rfl:=hb.nil
 have hc:(true)=true:=hc
 have hvc:(vcH sm3 gs1 (FI.of Try.f86 true) E4 E5 (.one .bool) (OT na fa) [.list [.int .i64] na fa] [] (E6 [.list [.int .i64] na fa] []))=
  (true=true/\(true=true->dK (fun (i:Nat)=>bB (100:Int) (FD.i (fa i (0:Nat)))) na (0:Nat)=(! (decide (bE (fun (i:Nat)=>bB (100:Int) (FD.i (fa i (0:Nat)))) na (0:Nat)<(0:Int)))))/\(true=false->False)):=by kernel_rfl
 refine hvc.mpr ?_;clear hvc
 have:=lL (fun i=>bB 100 (fa i 0).i) na 0
 simp;rw [this,Bool.not_not]
def zD:List PT:=[.one (.list [.int .i64])]
def zE:Clo:=(98,[])
def IQ:List FD->List FD->Bool
 | [.list _ _ _],[]=>true
 | _,_=>false
def zF:List FD->List FD->List FD
 | [.list _ na fa],[]=>[.bool (dK (fun i=>bB 2 (fa i 0).i) na 0)]
 | _,_=>[]
def IR (_na:Nat)(_fa:Nat->Nat->FD):Nat->bT:=aW (fun _=>[])
theorem OU:qB 86 (lK zD zE (.one .bool) IQ zF):=by
 refine jO hO EX Try.fok86 (fun fds bds=>match fds,bds with | [.list _ na fa],[]=>IR na fa | _,_=>aW fun _=>[]) rfl rfl ?_
 intro fds bds hf hb hc;obtain ⟨na,fa,ds0,rfl,ga,hf1⟩:=hf.list;obtain rfl:=hf1.nil;obtain rfl:=hb.nil
 have hc:(true)=true:=hc
 have hvc:(vcH sm3 gs1 (FI.of Try.f86 true) zD zE (.one .bool) (IR na fa) [.list [.int .i64] na fa] [] (zF [.list [.int .i64] na fa] []))=
  (true=true/\(true=true->dK (fun (i:Nat)=>bB (2:Int) (FD.i (fa i (0:Nat)))) na (0:Nat)=(! (decide (bE (fun (i:Nat)=>bB (2:Int) (FD.i (fa i (0:Nat)))) na (0:Nat)<(0:Int)))))/\(true=false->False)):=by kernel_rfl
 refine hvc.mpr ?_;clear hvc
 have:=lL (fun i=>bB 2 (fa i 0).i) na 0
 simp;rw [this,Bool.not_not]
def E7:List PT:=[.one (.list [.int .i64])]
def E8:Clo:=(123,[])
def OV:List FD->List FD->Bool
 | [.list _ _ _],[]=>true
 | _,_=>false
def E9:List FD->List FD->List FD
 | [.list _ na fa],[]=>[.bool (dK (fun i=>bB 100 (fa i 0).i) na 0)]
 | _,_=>[]
def OW (_na:Nat)(_fa:Nat->Nat->FD):Nat->bT:=aW (fun _=>[])
theorem RQ:qB 86 (lK E7 E8 (.one .bool) OV E9):=by
 refine jO hO EX Try.fok86 (fun fds bds=>match fds,bds with | [.list _ na fa],[]=>OW na fa | _,_=>aW fun _=>[]) rfl rfl ?_
 intro fds bds hf hb hc;obtain ⟨na,fa,ds0,rfl,ga,hf1⟩:=hf.list;obtain rfl:=hf1.nil;obtain rfl:=hb.nil
 have hc:(true)=true:=hc
 have hvc:(vcH sm3 gs1 (FI.of Try.f86 true) E7 E8 (.one .bool) (OW na fa) [.list [.int .i64] na fa] [] (E9 [.list [.int .i64] na fa] []))=
  (true=true/\(true=true->dK (fun (i:Nat)=>bB (100:Int) (FD.i (fa i (0:Nat)))) na (0:Nat)=(! (decide (bE (fun (i:Nat)=>bB (100:Int) (FD.i (fa i (0:Nat)))) na (0:Nat)<(0:Int)))))/\(true=false->False)):=by kernel_rfl
 refine hvc.mpr ?_;clear hvc
 have:=lL (fun i=>bB 100 (fa i 0).i) na 0
 simp;rw [this,Bool.not_not]
def gs2:G2:=(G2.setH gs1 86 (NN 87 (lK uJ uK (.one .bool) EY uL) (NN 114 (lK E4 E5 (.one .bool) OS E6) (NN 98 (lK zD zE (.one .bool) IQ zF) (lK E7 E8 (.one .bool) OV E9)))))
theorem cA:cZ gs2:=(cZ.setH EX (by kernel_rfl) (sA KY (sA RP (sA OU RQ))))
end
end Go.Ex
namespace Go.Ex
open Go Go.Proofs Go.RowKit
open Go.IntKind (i64 wrap)
open Int (ofNat toNat)
open Go.Ex.Ref (root)
open Go.Ex.Sh (int)
open Go.Ex.FD (list)
noncomputable section
def dI (st pl ho ge:Int):Int:=
 if ((1<=st/\st<=24)/\(1<=pl/\pl<=8))/\(1<=ho/\ho<=12)/\(0<=ge/\ge<ho) then (if st.tmod pl=0 then 0 else 13) else 2
def cC (pl ho p h:Int):Int:=if (0<=p/\p<=IntKind.i64.wrap (pl-1))/\(0<=h/\h<=IntKind.i64.wrap (ho-1)) then 0 else 6
def cB (n:Int):Int:=if 0<=n/\n<=1000000 then 0 else 2
def uM:List PT:=[.agg [.int .i64,.int .i64,.int .i64,.int .i64]]
def FA:List FD->Bool
 | [.int _ _,.int _ _,.int _ _,.int _ _]=>true
 | _=>false
def uN:List FD->List FD
 | [.int _ st,.int _ pl,.int _ ho,.int _ ge]=>[.int .i64 (dI st pl ho ge)]
 | _=>[]
def FB (_st _pl _ho _ge:Int):Nat->bT:=aW (fun _=>[])
theorem KZ:cT (mkR sm3 gs2) Try.prog η0 46 (FI.of Try.f46 true) uM (.one (.int .i64)) FA uN:=by
 refine aL hO cA Try.fok46 (fun fds=>match fds with | [.int _ st,.int _ pl,.int _ ho,.int _ ge]=>FB st pl ho ge | _=>aW fun _=>[]) ?_
 intro fds hf hc;obtain ⟨st,ds0,rfl,hf1⟩:=hf.int;obtain ⟨pl,ds1,rfl,hf2⟩:=hf1.int;obtain ⟨ho,ds2,rfl,hf3⟩:=hf2.int;obtain ⟨ge,ds3,rfl,hf4⟩:=hf3.int;obtain rfl:=hf4.nil
 have hc:(true)=true:=hc
 have hvc:(vcF sm3 gs2 (FI.of Try.f46 true) uM (.one (.int .i64)) (FB st pl ho ge) noR [.int .i64 st,.int .i64 pl,.int .i64 ho,.int .i64 ge] (uN [.int .i64 st,.int .i64 pl,.int .i64 ho,.int .i64 ge]))=
  (true=true/\(true=true->((decide ((1:Int)<=st)&&decide (st<=(24:Int)))=true->(true=true->((decide ((1:Int)<=pl)&&decide (pl<=(8:Int)))=true->(true=true->((decide ((1:Int)<=ho)&&decide (ho<=(12:Int)))=true->(true=true->((decide ((0:Int)<=ge)&&decide (ge<=wrap i64 (ho-(1:Int))))=false->i64=i64/\dI st pl ho ge=(2:Int))/\((decide ((0:Int)<=ge)&&decide (ge<=wrap i64 (ho-(1:Int))))=true->((! (decide (pl=(0:Int))))=true->(decide (Int.tmod st pl=(0:Int))=false->i64=i64/\dI st pl ho ge=(13:Int))/\(decide (Int.tmod st pl=(0:Int))=true->i64=i64/\dI st pl ho ge=(0:Int)))/\((! (decide (pl=(0:Int))))=false->False)))/\(true=false->False))/\((decide ((1:Int)<=ho)&&decide (ho<=(12:Int)))=false->i64=i64/\dI st pl ho ge=(2:Int)))/\(true=false->False))/\((decide ((1:Int)<=pl)&&decide (pl<=(8:Int)))=false->i64=i64/\dI st pl ho ge=(2:Int)))/\(true=false->False))/\((decide ((1:Int)<=st)&&decide (st<=(24:Int)))=false->i64=i64/\dI st pl ho ge=(2:Int)))/\(true=false->False)):=by kernel_rfl
 refine hvc.mpr ?_;clear hvc;simp;simp only [dI];refine ⟨fun a b=>⟨fun c d=>⟨fun e f => ?_,fun g=>by rw [if_neg (by omega)]⟩,fun g=>by rw [if_neg (by omega)]⟩,fun g=>by rw [if_neg (by omega)]⟩
 rw [aO (by omega) (by omega)]
 refine ⟨fun g=>by rw [if_neg (by omega)],fun g1 g2=>⟨fun _=>⟨fun h=>by rw [if_pos (by omega),if_neg h],fun h=>by rw [if_pos (by omega),if_pos h]⟩,by omega⟩⟩
def FC:List PT:=[.agg [.int .i64,.int .i64,.int .i64,.int .i64],.agg [.int .i64,.int .i64]]
def OX:List FD->Bool
 | [.int _ _,.int _ _,.int _ _,.int _ _,.int _ _,.int _ _]=>true
 | _=>false
def FE:List FD->List FD
 | [.int _ _,.int _ pl,.int _ ho,.int _ _,.int _ p,.int _ h]=>[.int .i64 (cC pl ho p h)]
 | _=>[]
def OY (_st _pl _ho _ge _p _h:Int):Nat->bT:=aW (fun _=>[])
theorem RR:cT (mkR sm3 gs2) Try.prog η0 110 (FI.of Try.f110 true) FC (.one (.int .i64)) OX FE:=by
 refine aL hO cA Try.fok110 (fun fds=>match fds with | [.int _ st,.int _ pl,.int _ ho,.int _ ge,.int _ p,.int _ h]=>OY st pl ho ge p h | _=>aW fun _=>[]) ?_
 intro fds hf hc;obtain ⟨st,ds0,rfl,hf1⟩:=hf.int;obtain ⟨pl,ds1,rfl,hf2⟩:=hf1.int;obtain ⟨ho,ds2,rfl,hf3⟩:=hf2.int;obtain ⟨ge,ds3,rfl,hf4⟩:=hf3.int;obtain ⟨p,ds4,rfl,hf5⟩:=hf4.int;obtain ⟨h,ds5,rfl,hf6⟩:=hf5.int;obtain rfl:=hf6.nil
 have hc:(true)=true:=hc
 have hvc:(vcF sm3 gs2 (FI.of Try.f110 true) FC (.one (.int .i64)) (OY st pl ho ge p h) noR [.int .i64 st,.int .i64 pl,.int .i64 ho,.int .i64 ge,.int .i64 p,.int .i64 h] (FE [.int .i64 st,.int .i64 pl,.int .i64 ho,.int .i64 ge,.int .i64 p,.int .i64 h]))=
  (true=true/\(true=true->((decide ((0:Int)<=p)&&decide (p<=wrap i64 (pl-(1:Int))))=true->(true=true->((decide ((0:Int)<=h)&&decide (h<=wrap i64 (ho-(1:Int))))=false->i64=i64/\cC pl ho p h=(6:Int))/\((decide ((0:Int)<=h)&&decide (h<=wrap i64 (ho-(1:Int))))=true->i64=i64/\cC pl ho p h=(0:Int)))/\(true=false->False))/\((decide ((0:Int)<=p)&&decide (p<=wrap i64 (pl-(1:Int))))=false->i64=i64/\cC pl ho p h=(6:Int)))/\(true=false->False)):=by kernel_rfl
 refine hvc.mpr ?_;clear hvc;simp;simp only [cC];refine ⟨fun a b=>⟨fun g=>by rw [if_neg (by omega)],fun c d=>by rw [if_pos ⟨⟨a,b⟩,c,d⟩]⟩,fun g=>by rw [if_neg (by omega)]⟩
def zG:List PT:=[.one (.int .i64)]
def IT:List FD->Bool
 | [.int _ _]=>true
 | _=>false
def zH:List FD->List FD
 | [.int _ n]=>[.int .i64 (cB n)]
 | _=>[]
def IU (_n:Int):Nat->bT:=aW (fun _=>[])
theorem OZ:cT (mkR sm3 gs2) Try.prog η0 111 (FI.of Try.f111 true) zG (.one (.int .i64)) IT zH:=by
 refine aL hO cA Try.fok111 (fun fds=>match fds with | [.int _ n]=>IU n | _=>aW fun _=>[]) ?_
 intro fds hf hc;obtain ⟨n,ds0,rfl,hf1⟩:=hf.int;obtain rfl:=hf1.nil
 have hc:(true)=true:=hc
 have hvc:(vcF sm3 gs2 (FI.of Try.f111 true) zG (.one (.int .i64)) (IU n) noR [.int .i64 n] (zH [.int .i64 n]))=
  (true=true/\(true=true->((decide ((0:Int)<=n)&&decide (n<=(1000000:Int)))=false->i64=i64/\cB n=(2:Int))/\((decide ((0:Int)<=n)&&decide (n<=(1000000:Int)))=true->i64=i64/\cB n=(0:Int)))/\(true=false->False)):=by kernel_rfl
 refine hvc.mpr ?_;clear hvc;simp;simp only [cB];refine ⟨fun g=>by rw [if_neg (by omega)],fun a b=>by rw [if_pos ⟨a,b⟩]⟩
def sm4:T Smf:=(T.set (T.set (T.set sm3 46 (some (gFd uM (.one (.int .i64)) FA uN))) 110 (some (gFd FC (.one (.int .i64)) OX FE))) 111 (some (gFd zG (.one (.int .i64)) IT zH)))
theorem RS:Tab fC sm4:=(Tab.set (Tab.set (Tab.set hO (by kernel_rfl) (aV hO cA KZ rfl)) (by kernel_rfl) (aV hO cA RR rfl)) (by kernel_rfl) (aV hO cA OZ rfl))
end
end Go.Ex
