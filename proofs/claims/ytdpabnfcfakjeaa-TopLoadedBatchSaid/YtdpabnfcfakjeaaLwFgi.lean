/-
 Contracts: checks of a flow; thicknesses.
-/
import Derived.Test.YtdpabnfcfakjeaaLwFef
namespace Go.Ex
open Go Go.Proofs Go.RowKit
open Go.IntKind (i64 wrap)
open Int (ofNat toNat)
open Prod (snd)
open Go.Ex.Ref (root)
open Go.Ex.Sh (int)
open Go.Ex.FD (list)
noncomputable section
def nV (ho:Int)(f:Nat->Nat->FD):Nat->Nat->Int
 | 0,_=>0
 | n+1,x=>if ((f x 0).ln:Int)=ho then (if dK (fun i=>bB 100 ((f x 0).fn i 0).i) (f x 0).ln 0=true then 2 else nV ho f n (x+1)) else 12
def cG (st pl ho ge:Int)(n:Nat)(f:Nat->Nat->FD):Int:=
 if dI st pl ho ge=0 then (if (n:Int)=st then nV ho f n 0 else 12) else dI st pl ho ge
def uO:List PT:=[.agg [.int .i64,.int .i64,.int .i64,.int .i64],.one (.list [.list [.int .i64]])]
def FF:List FD->Bool
 | [.int _ _,.int _ _,.int _ _,.int _ _,.list _ _ _]=>true
 | _=>false
def uP:List FD->List FD
 | [.int _ st,.int _ pl,.int _ ho,.int _ ge,.list _ o j]=>[.int .i64 (cG st pl ho ge o j)]
 | _=>[]
def FG (st pl ho ge:Int)(o:Nat)(j:Nat->Nat->FD):Nat->bT:=fun i=>match i with | 7=>⟨Nat,fun _=>[{ι:=Nat,G:=fun x=>x<=o/\nV ho j (o-x) x=nV ho j o 0,μ:=fun x=>o-x,tl:=fun x=>[(0,.agg [.int i64 (.tm st),.int i64 (.tm pl),.int i64 (.tm ho),.int i64 (.tm ge)]),(1,.one (.fz (.root 0 4) (list [Sh.list [int i64]] o j))),(2,.one (.ptr (some (1,0)))),(8,.agg [.int i64 (.tm st),.int i64 (.tm pl),.int i64 (.tm ho),.int i64 (.tm ge)]),(13,.one (.fz (.root 0 4) (list [Sh.list [int i64]] o j))),(14,.one (.int i64 (.tm (ofNat o)))),(15,.one (.ptr (some (1,0)))),(16,.one (.int i64 (.tm st))),(18,.one (.fz (.root 0 4) (list [Sh.list [int i64]] o j))),(19,.one (.int i64 (.tm (ofNat o)))),(20,.one (.int i64 (.tm (ofNat x))))],bl:=fun x=>[(1,.cells 47 4 [.int i64 (.tm st),.int i64 (.tm pl),.int i64 (.tm ho),.int i64 (.tm ge)])],nx:=(1:Nat)+(1:Nat)}]⟩ | _=>⟨Nat,fun _=>[]⟩
theorem K4:cT (mkR sm4 gs2) Try.prog η0 47 (FI.of Try.f47 true) uO (.one (.int .i64)) FF uP:=by
 refine aL RS cA Try.fok47 (fun fds=>match fds with | [.int _ st,.int _ pl,.int _ ho,.int _ ge,.list _ o j]=>FG st pl ho ge o j | _=>aW fun _=>[]) ?_
 intro fds hf hc;obtain ⟨st,ds0,rfl,hf1⟩:=hf.int;obtain ⟨pl,ds1,rfl,hf2⟩:=hf1.int;obtain ⟨ho,ds2,rfl,hf3⟩:=hf2.int;obtain ⟨ge,ds3,rfl,hf4⟩:=hf3.int;obtain ⟨o,j,ds4,rfl,gfl,hf5⟩:=hf4.list;obtain rfl:=hf5.nil
 have hc:(true)=true:=hc
 have hvc:(vcF sm4 gs2 (FI.of Try.f47 true) uO (.one (.int .i64)) (FG st pl ho ge o j) noR [.int .i64 st,.int .i64 pl,.int .i64 ho,.int .i64 ge,.list [.list [.int .i64]] o j] (uP [.int .i64 st,.int .i64 pl,.int .i64 ho,.int .i64 ge,.list [.list [.int .i64]] o j]))=
  (true=true/\(true=true->(decide (dI st pl ho ge=(0:Int))=false->i64=i64/\cG st pl ho ge o j=dI st pl ho ge)/\(decide (dI st pl ho ge=(0:Int))=true->(decide (ofNat o=st)=false->i64=i64/\cG st pl ho ge o j=(12:Int))/\(decide (ofNat o=st)=true-> ∃y0:Nat,(∃y1:Nat,((y1<=o/\nV ho j (o-y1) y1=nV ho j o (0:Nat))/\True)/\(true=true/\((i64=i64/\st=st)/\(i64=i64/\pl=pl)/\(i64=i64/\ho=ho)/\(i64=i64/\ge=ge)/\True)/\(root 0 4=root 0 4/\list [Sh.list [int i64]] o j=list [Sh.list [int i64]] o j/\true=true)/\((1,1)∈([(1,1)]:List (Nat×Nat))/\snd ((1:Nat),(0:Nat))=snd ((1:Nat),(0:Nat)))/\((i64=i64/\st=st)/\(i64=i64/\pl=pl)/\(i64=i64/\ho=ho)/\(i64=i64/\ge=ge)/\True)/\(root 0 4=root 0 4/\list [Sh.list [int i64]] o j=list [Sh.list [int i64]] o j/\true=true)/\(i64=i64/\ofNat o=ofNat o)/\((1,1)∈([(1,1)]:List (Nat×Nat))/\snd ((1:Nat),(0:Nat))=snd ((1:Nat),(0:Nat)+Field.offset {name:= "Stations",type:=(3:Nat),offset:=(0:Nat),embedded:=false,tag:= "",pkgPath:= "",byteOffset:=(0:Nat)}))/\(i64=i64/\st=st)/\(root 0 4=root 0 4/\list [Sh.list [int i64]] o j=list [Sh.list [int i64]] o j/\true=true)/\(i64=i64/\ofNat o=ofNat o)/\(i64=i64/\ofNat y1=(0:Int))/\True)/\((47:TypeId)=(47:Nat)/\(4:Nat)=List.length [Sc.int i64 (Ix.tm st),Sc.int i64 (Ix.tm pl),Sc.int i64 (Ix.tm ho),Sc.int i64 (Ix.tm ge)]/\(i64=i64/\st=st)/\(i64=i64/\pl=pl)/\(i64=i64/\ho=ho)/\(i64=i64/\ge=ge)/\True)/\True)/\ ∀y1:Nat,y1<=o/\nV ho j (o-y1) y1=nV ho j o (0:Nat)->(decide (ofNat y1<ofNat o)=true->((decide ((0:Int)<=ofNat y1)&&decide (ofNat y1<(↑o:Int)))=true->(decide (ofNat (FD.ln (j (toNat (ofNat y1)) (0:Nat)))=ho)=false->i64=i64/\cG st pl ho ge o j=(12:Int))/\(decide (ofNat (FD.ln (j (toNat (ofNat y1)) (0:Nat)))=ho)=true->(true=true->(dK (fun (i:Nat)=>bB (100:Int) (FD.i (FD.fn (j (toNat (ofNat y1)) (0:Nat)) i (0:Nat)))) (FD.ln (j (toNat (ofNat y1)) (0:Nat))) (0:Nat)=true->i64=i64/\cG st pl ho ge o j=(2:Int))/\(dK (fun (i:Nat)=>bB (100:Int) (FD.i (FD.fn (j (toNat (ofNat y1)) (0:Nat)) i (0:Nat)))) (FD.ln (j (toNat (ofNat y1)) (0:Nat))) (0:Nat)=false-> ∃y2:Nat,((y2<=o/\nV ho j (o-y2) y2=nV ho j o (0:Nat))/\o-y2<o-y1)/\(true=true/\((i64=i64/\st=st)/\(i64=i64/\pl=pl)/\(i64=i64/\ho=ho)/\(i64=i64/\ge=ge)/\True)/\(root 0 4=root 0 4/\list [Sh.list [int i64]] o j=list [Sh.list [int i64]] o j/\true=true)/\((1,1)∈([(1,1)]:List (Nat×Nat))/\snd ((1:Nat),(0:Nat))=snd ((1:Nat),(0:Nat)))/\((i64=i64/\st=st)/\(i64=i64/\pl=pl)/\(i64=i64/\ho=ho)/\(i64=i64/\ge=ge)/\True)/\(root 0 4=root 0 4/\list [Sh.list [int i64]] o j=list [Sh.list [int i64]] o j/\true=true)/\(i64=i64/\ofNat o=ofNat o)/\((1,1)∈([(1,1)]:List (Nat×Nat))/\snd ((1:Nat),(0:Nat))=snd ((1:Nat),(0:Nat)))/\(i64=i64/\st=st)/\(root 0 4=root 0 4/\list [Sh.list [int i64]] o j=list [Sh.list [int i64]] o j/\true=true)/\(i64=i64/\ofNat o=ofNat o)/\(i64=i64/\ofNat y2=wrap i64 (ofNat y1+(1:Int)))/\True)/\((47:TypeId)=(47:TypeId)/\(4:Nat)=(4:Nat)/\(i64=i64/\st=st)/\(i64=i64/\pl=pl)/\(i64=i64/\ho=ho)/\(i64=i64/\ge=ge)/\True)/\True))/\(true=false->False)))/\((decide ((0:Int)<=ofNat y1)&&decide (ofNat y1<(↑o:Int)))=false->False))/\(decide (ofNat y1<ofNat o)=false->i64=i64/\cG st pl ho ge o j=(0:Int)))))/\(true=false->False)):=by kernel_rfl
 refine hvc.mpr ?_;clear hvc
 have hl:=gfl.len
 have hl':maxLen=9223372036854775807:=rfl
 simp;unfold cG;refine ⟨fun h=>by rw [if_neg h],fun h => ?_⟩
 rw [if_pos h];refine ⟨fun g=>by rw [if_neg g],fun g => ?_⟩
 rw [if_pos g];intro x hx he;rw [←he];refine ⟨fun h=>⟨fun _ => ?_,h⟩,fun h=>by rw [show o-x=0 by omega];rfl⟩
 rw [show o-x=o-(x+1)+1 by omega,nV]
 refine ⟨fun a=>by rw [if_neg a],fun a=>⟨fun b=>by rw [if_pos a,if_pos b],fun b=>⟨x+1,⟨⟨by omega,?_⟩,by omega⟩,?_⟩⟩⟩
 ·rw [if_pos a,if_neg (by simp [b])]
 ·rw [aO (by omega) (by omega)]
  rfl
def sm5:T Smf:=(T.set sm4 47 (some (gFd uO (.one (.int .i64)) FF uP)))
theorem uQ:Tab fC sm5:=(Tab.set RS (by kernel_rfl) (aV RS cA K4 rfl))
def dT (a b c:Int):Int:=if a=0 then (if b=0 then c else b) else a
def wW (st pl p s:Int):Int:=Int.tmod (bA (s+bA (p*bA (st.tdiv pl)))) st
def wX (ho ge h s:Int):Int:=Int.tmod (bA (h+bA (ge*s))) ho
def dB (st pl ho ge p h n:Int):Int:=dT (dI st pl ho ge) (cC pl ho p h) (cB n)
theorem kD {st pl ho ge:Int} (h:dI st pl ho ge=0):tA st pl ho ge=true:=by
 unfold dI at h;split at h
 ·rename_i a;split at h
  ·rename_i b;simp only [tA,Bool.and_eq_true,decide_eq_true_eq];exact ⟨⟨⟨a.1,a.2.1⟩,a.2.2⟩,b⟩
  ·omega
 ·omega
theorem FH {st pl ho ge p h:Int} (hr:tA st pl ho ge=true) (hp:cC pl ho p h=0):AU pl ho p h=true:=by
 simp only [tA,Bool.and_eq_true,decide_eq_true_eq] at hr;unfold cC at hp;rw [aO (by omega) (by omega),aO (by omega) (by omega)] at hp
 split at hp
 ·simp only [AU,Bool.and_eq_true,decide_eq_true_eq];omega
 ·omega
theorem nW {st pl ho ge:Int} (h:dI st pl ho ge=0):e9 [.int .i64 st,.int .i64 pl,.int .i64 ho,.int .i64 ge]=true:=by
 obtain ⟨S,P,H,G,⟨rfl,rfl,rfl,rfl⟩,c1,c2,c3,c4,c5,c6,c7,c8⟩:=lS (kD h);exact AW P G c1 c5 c6
theorem FJ {ho:Int} {f:Nat->Nat->FD} : ∀ {n x:Nat},nV ho f n x=0 -> ∀ i,x<=i->i<x+n->((f i 0).ln:Int)=ho/\dK (fun k=>bB 100 ((f i 0).fn k 0).i) (f i 0).ln 0=false
 | 0,x,_,i,h1,h2=>by omega
 | n+1,x,h,i,h1,h2=>by
  unfold nV at h;split at h
  ·rename_i a;split at h
   ·omega
   ·rename_i b
    by_cases e:i=x
    ·subst e;exact ⟨a,by simpa using b⟩
    ·exact FJ h i (by omega) (by omega)
  ·omega
theorem iK {p:Nat->Bool} : ∀ {m:Nat},(∀ i,i<m->p i=true)->aH p m=true
 | 0,_=>rfl
 | m+1,h=>by
  show (p m&&aH p m)=true
  rw [iK (fun i hi=>h i (by omega)),h m (by omega)]
  rfl
theorem YV {st pl ho ge:Int} (h:dI st pl ho ge=0) (p hh n:Int):atC [.int .i64 st,.int .i64 pl,.int .i64 ho,.int .i64 ge,.int .i64 p,.int .i64 hh,.int .i64 n]=true:=by
 obtain ⟨S,P,H,G,⟨rfl,rfl,rfl,rfl⟩,c1,c2,c3,c4,c5,c6,c7,c8⟩:=lS (kD h);simp only [atC,Bool.and_eq_true,Bool.not_eq_true',decide_eq_false_iff_not];omega
theorem qZ {st pl ho ge:Int} {n:Nat} {f:Nat->Nat->FD} (h:cG st pl ho ge n f=0):dI st pl ho ge=0/\(n:Int)=st/\AV st ho n f=true /\ ∀ i,i<n -> ∀ k,k<(f i 0).ln->0<=((f i 0).fn k 0).i/\((f i 0).fn k 0).i<=100:=by
 unfold cG at h;split at h
 ·rename_i a;split at h
  ·rename_i b;refine ⟨a,b,?_,fun i hi k hk => ?_⟩
   ·simp only [AV,Bool.and_eq_true];refine ⟨Nat.ble_eq_true_of_le (by omega),iK fun i hi=>Nat.ble_eq_true_of_le ?_⟩
    have:=(FJ h i (by omega) (by omega)).1
    omega
   ·have:=lM (FJ h i (by omega) (by omega)).2 k (by omega) (by omega)
    simp only [bB,Bool.not_eq_false',Bool.and_eq_true,decide_eq_true_eq] at this;exact this
  ·omega
 ·rename_i a;exact absurd h a
def FK:List PT:=[.agg [.int .i64,.int .i64,.int .i64,.int .i64],.agg [.int .i64,.int .i64],.one (.int .i64)]
def O0:List FD->Bool
 | [.int _ _,.int _ _,.int _ _,.int _ _,.int _ _,.int _ _,.int _ _]=>true
 | _=>false
def FL:List FD->List FD
 | [.int _ st,.int _ pl,.int _ ho,.int _ ge,.int _ p,.int _ h,.int _ n]=>[.int .i64 (if dB st pl ho ge p h n=0 then wW st pl p n else 0),.int .i64 (if dB st pl ho ge p h n=0 then wX ho ge h n else 0),.int .i64 (dB st pl ho ge p h n)]
 | _=>[]
def O1 (_st _pl _ho _ge _p _h _n:Int):Nat->bT:=aW (fun _=>[])
theorem RU:cT (mkR sm5 gs2) Try.prog η0 49 (FI.of Try.f49 true) FK (.tup [.agg [.int .i64,.int .i64],.one (.int .i64)]) O0 FL:=by
 refine aL uQ cA Try.fok49 (fun fds=>match fds with | [.int _ st,.int _ pl,.int _ ho,.int _ ge,.int _ p,.int _ h,.int _ n]=>O1 st pl ho ge p h n | _=>aW fun _=>[]) ?_
 intro fds hf hc;obtain ⟨st,ds0,rfl,hf1⟩:=hf.int;obtain ⟨pl,ds1,rfl,hf2⟩:=hf1.int;obtain ⟨ho,ds2,rfl,hf3⟩:=hf2.int;obtain ⟨ge,ds3,rfl,hf4⟩:=hf3.int;obtain ⟨p,ds4,rfl,hf5⟩:=hf4.int;obtain ⟨h,ds5,rfl,hf6⟩:=hf5.int;obtain ⟨n,ds6,rfl,hf7⟩:=hf6.int;obtain rfl:=hf7.nil
 have hc:(true)=true:=hc
 have hvc:(vcF sm5 gs2 (FI.of Try.f49 true) FK (.tup [.agg [.int .i64,.int .i64],.one (.int .i64)]) (O1 st pl ho ge p h n) noR [.int .i64 st,.int .i64 pl,.int .i64 ho,.int .i64 ge,.int .i64 p,.int .i64 h,.int .i64 n] (FL [.int .i64 st,.int .i64 pl,.int .i64 ho,.int .i64 ge,.int .i64 p,.int .i64 h,.int .i64 n]))=
  (true=true/\(true=true->(true=true->(true=true->(decide (dI st pl ho ge=(0:Int))=true->(decide (cC pl ho p h=(0:Int))=true->(decide (cB n=(0:Int))=true->(atC ([FD.int i64 st,FD.int i64 pl,FD.int i64 ho,FD.int i64 ge,FD.int i64 p,FD.int i64 h]++[FD.int i64 n])=true->((i64=i64/\(if dB st pl ho ge p h n=(0:Int) then wW st pl p n else (0:Int))=Int.tmod (bA (n+bA (p*bA (Int.tdiv st pl)))) st)/\(i64=i64/\(if dB st pl ho ge p h n=(0:Int) then wX ho ge h n else (0:Int))=Int.tmod (bA (h+bA (ge*n))) ho)/\True)/\(i64=i64/\dB st pl ho ge p h n=(0:Int))/\True)/\(atC ([FD.int i64 st,FD.int i64 pl,FD.int i64 ho,FD.int i64 ge,FD.int i64 p,FD.int i64 h]++[FD.int i64 n])=false->False))/\(decide (cB n=(0:Int))=false->(decide (cB n=(0:Int))=false->((i64=i64/\(if dB st pl ho ge p h n=(0:Int) then wW st pl p n else (0:Int))=(0:Int))/\(i64=i64/\(if dB st pl ho ge p h n=(0:Int) then wX ho ge h n else (0:Int))=(0:Int))/\True)/\(i64=i64/\dB st pl ho ge p h n=cB n)/\True)/\(decide (cB n=(0:Int))=true->(atC ([FD.int i64 st,FD.int i64 pl,FD.int i64 ho,FD.int i64 ge,FD.int i64 p,FD.int i64 h]++[FD.int i64 n])=true->((i64=i64/\(if dB st pl ho ge p h n=(0:Int) then wW st pl p n else (0:Int))=Int.tmod (bA (n+bA (p*bA (Int.tdiv st pl)))) st)/\(i64=i64/\(if dB st pl ho ge p h n=(0:Int) then wX ho ge h n else (0:Int))=Int.tmod (bA (h+bA (ge*n))) ho)/\True)/\(i64=i64/\dB st pl ho ge p h n=(0:Int))/\True)/\(atC ([FD.int i64 st,FD.int i64 pl,FD.int i64 ho,FD.int i64 ge,FD.int i64 p,FD.int i64 h]++[FD.int i64 n])=false->False))))/\(decide (cC pl ho p h=(0:Int))=false->(decide (cC pl ho p h=(0:Int))=false->((i64=i64/\(if dB st pl ho ge p h n=(0:Int) then wW st pl p n else (0:Int))=(0:Int))/\(i64=i64/\(if dB st pl ho ge p h n=(0:Int) then wX ho ge h n else (0:Int))=(0:Int))/\True)/\(i64=i64/\dB st pl ho ge p h n=cC pl ho p h)/\True)/\(decide (cC pl ho p h=(0:Int))=true->(atC ([FD.int i64 st,FD.int i64 pl,FD.int i64 ho,FD.int i64 ge,FD.int i64 p,FD.int i64 h]++[FD.int i64 n])=true->((i64=i64/\(if dB st pl ho ge p h n=(0:Int) then wW st pl p n else (0:Int))=Int.tmod (bA (n+bA (p*bA (Int.tdiv st pl)))) st)/\(i64=i64/\(if dB st pl ho ge p h n=(0:Int) then wX ho ge h n else (0:Int))=Int.tmod (bA (h+bA (ge*n))) ho)/\True)/\(i64=i64/\dB st pl ho ge p h n=(0:Int))/\True)/\(atC ([FD.int i64 st,FD.int i64 pl,FD.int i64 ho,FD.int i64 ge,FD.int i64 p,FD.int i64 h]++[FD.int i64 n])=false->False))))/\(decide (dI st pl ho ge=(0:Int))=false->(decide (dI st pl ho ge=(0:Int))=false->((i64=i64/\(if dB st pl ho ge p h n=(0:Int) then wW st pl p n else (0:Int))=(0:Int))/\(i64=i64/\(if dB st pl ho ge p h n=(0:Int) then wX ho ge h n else (0:Int))=(0:Int))/\True)/\(i64=i64/\dB st pl ho ge p h n=dI st pl ho ge)/\True)/\(decide (dI st pl ho ge=(0:Int))=true->(atC ([FD.int i64 st,FD.int i64 pl,FD.int i64 ho,FD.int i64 ge,FD.int i64 p,FD.int i64 h]++[FD.int i64 n])=true->((i64=i64/\(if dB st pl ho ge p h n=(0:Int) then wW st pl p n else (0:Int))=Int.tmod (bA (n+bA (p*bA (Int.tdiv st pl)))) st)/\(i64=i64/\(if dB st pl ho ge p h n=(0:Int) then wX ho ge h n else (0:Int))=Int.tmod (bA (h+bA (ge*n))) ho)/\True)/\(i64=i64/\dB st pl ho ge p h n=(0:Int))/\True)/\(atC ([FD.int i64 st,FD.int i64 pl,FD.int i64 ho,FD.int i64 ge,FD.int i64 p,FD.int i64 h]++[FD.int i64 n])=false->False))))/\(true=false->False))/\(true=false->False))/\(true=false->False)):=by kernel_rfl
 refine hvc.mpr ?_;clear hvc
 by_cases h1:dI st pl ho ge=0
 ·have:=YV h1 p h n
  by_cases h2:cC pl ho p h=0<;>by_cases h3:cB n=0<;>simp [h1,h2,h3,dB,dT,wW,wX,this]
 ·simp [h1,dB,dT]
def K5:List PT:=[.agg [.int .i64,.int .i64,.int .i64,.int .i64]]
def TZ:List FD->Bool
 | [.int _ _,.int _ _,.int _ _,.int _ _]=>true
 | _=>false
def K6:List FD->List FD
 | [.int _ st,.int _ pl,.int _ ho,.int _ ge]=>[.int .i64 (if dI st pl ho ge=0 then aE st ho ge else 0),.int .i64 (dI st pl ho ge)]
 | _=>[]
def T0 (_st _pl _ho _ge:Int):Nat->bT:=aW (fun _=>[])
theorem VS:cT (mkR sm5 gs2) Try.prog η0 37 (FI.of Try.f37 true) K5 (.tup [.one (.int .i64),.one (.int .i64)]) TZ K6:=by
 refine aL uQ cA Try.fok37 (fun fds=>match fds with | [.int _ st,.int _ pl,.int _ ho,.int _ ge]=>T0 st pl ho ge | _=>aW fun _=>[]) ?_
 intro fds hf hc;obtain ⟨st,ds0,rfl,hf1⟩:=hf.int;obtain ⟨pl,ds1,rfl,hf2⟩:=hf1.int;obtain ⟨ho,ds2,rfl,hf3⟩:=hf2.int;obtain ⟨ge,ds3,rfl,hf4⟩:=hf3.int;obtain rfl:=hf4.nil
 have hc:(true)=true:=hc
 have hvc:(vcF sm5 gs2 (FI.of Try.f37 true) K5 (.tup [.one (.int .i64),.one (.int .i64)]) (T0 st pl ho ge) noR [.int .i64 st,.int .i64 pl,.int .i64 ho,.int .i64 ge] (K6 [.int .i64 st,.int .i64 pl,.int .i64 ho,.int .i64 ge]))=
  (true=true/\(true=true->(decide (dI st pl ho ge=(0:Int))=false->(i64=i64/\(if dI st pl ho ge=(0:Int) then aE st ho ge else (0:Int))=(0:Int))/\(i64=i64/\dI st pl ho ge=dI st pl ho ge)/\True)/\(decide (dI st pl ho ge=(0:Int))=true->(e9 ([FD.int i64 st,FD.int i64 pl,FD.int i64 ho,FD.int i64 ge]++[])=true->(i64=i64/\(if dI st pl ho ge=(0:Int) then aE st ho ge else (0:Int))=aE st ho ge)/\(i64=i64/\dI st pl ho ge=(0:Int))/\True)/\(e9 ([FD.int i64 st,FD.int i64 pl,FD.int i64 ho,FD.int i64 ge]++[])=false->False)))/\(true=false->False)):=by kernel_rfl
 refine hvc.mpr ?_;clear hvc;simp;refine ⟨fun h g=>absurd g h,fun h=>⟨fun _=>⟨fun g=>absurd h g,h⟩,nW h⟩⟩
def uR:List PT:=[.agg [.int .i64,.int .i64,.int .i64,.int .i64],.one (.list [.list [.int .i64]]),.agg [.int .i64,.int .i64,.int .i64]]
def FM:List FD->Bool
 | [.int _ _,.int _ _,.int _ _,.int _ _,.list _ _ _,.int _ _,.int _ _,.int _ _]=>true
 | _=>false
def uS:List FD->List FD
 | [.int _ st,.int _ pl,.int _ ho,.int _ ge,.list _ o j,.int _ p,.int _ h,.int _ n]=>[.int .i64 (if dT (cG st pl ho ge o j) (cC pl ho p h) (cB n)=0 then aG st pl ho ge p h j n else 0),.int .i64 (dT (cG st pl ho ge o j) (cC pl ho p h) (cB n))]
 | _=>[]
def FN (_st _pl _ho _ge:Int)(_nfl:Nat)(_ffl:Nat->Nat->FD)(_p _h _n:Int):Nat->bT:=aW (fun _=>[])
theorem K7:cT (mkR sm5 gs2) Try.prog η0 45 (FI.of Try.f45 true) uR (.tup [.one (.int .i64),.one (.int .i64)]) FM uS:=by
 refine aL uQ cA Try.fok45 (fun fds=>match fds with | [.int _ st,.int _ pl,.int _ ho,.int _ ge,.list _ o j,.int _ p,.int _ h,.int _ n]=>FN st pl ho ge o j p h n | _=>aW fun _=>[]) ?_
 intro fds hf hc;obtain ⟨st,ds0,rfl,hf1⟩:=hf.int;obtain ⟨pl,ds1,rfl,hf2⟩:=hf1.int;obtain ⟨ho,ds2,rfl,hf3⟩:=hf2.int;obtain ⟨ge,ds3,rfl,hf4⟩:=hf3.int;obtain ⟨o,j,ds4,rfl,gfl,hf5⟩:=hf4.list;obtain ⟨p,ds5,rfl,hf6⟩:=hf5.int;obtain ⟨h,ds6,rfl,hf7⟩:=hf6.int;obtain ⟨n,ds7,rfl,hf8⟩:=hf7.int;obtain rfl:=hf8.nil
 have hc:(true)=true:=hc
 have hvc:(vcF sm5 gs2 (FI.of Try.f45 true) uR (.tup [.one (.int .i64),.one (.int .i64)]) (FN st pl ho ge o j p h n) noR [.int .i64 st,.int .i64 pl,.int .i64 ho,.int .i64 ge,.list [.list [.int .i64]] o j,.int .i64 p,.int .i64 h,.int .i64 n] (uS [.int .i64 st,.int .i64 pl,.int .i64 ho,.int .i64 ge,.list [.list [.int .i64]] o j,.int .i64 p,.int .i64 h,.int .i64 n]))=
  (true=true/\(true=true->(decide (cG st pl ho ge o j=(0:Int))=false->(i64=i64/\(if dT (cG st pl ho ge o j) (cC pl ho p h) (cB n)=(0:Int) then aG st pl ho ge p h j n else (0:Int))=(0:Int))/\(i64=i64/\dT (cG st pl ho ge o j) (cC pl ho p h) (cB n)=cG st pl ho ge o j)/\True)/\(decide (cG st pl ho ge o j=(0:Int))=true->(true=true->(true=true->(decide (cC pl ho p h=(0:Int))=true->(decide (cB n=(0:Int))=true->(iW ([FD.int i64 st,FD.int i64 pl,FD.int i64 ho,FD.int i64 ge,FD.int i64 p,FD.int i64 h]++[list [Sh.list [int i64]] o j,FD.int i64 n])=true->(i64=i64/\(if dT (cG st pl ho ge o j) (cC pl ho p h) (cB n)=(0:Int) then aG st pl ho ge p h j n else (0:Int))=aG st pl ho ge p h j n)/\(i64=i64/\dT (cG st pl ho ge o j) (cC pl ho p h) (cB n)=(0:Int))/\True)/\(iW ([FD.int i64 st,FD.int i64 pl,FD.int i64 ho,FD.int i64 ge,FD.int i64 p,FD.int i64 h]++[list [Sh.list [int i64]] o j,FD.int i64 n])=false->False))/\(decide (cB n=(0:Int))=false->(decide (cB n=(0:Int))=false->(i64=i64/\(if dT (cG st pl ho ge o j) (cC pl ho p h) (cB n)=(0:Int) then aG st pl ho ge p h j n else (0:Int))=(0:Int))/\(i64=i64/\dT (cG st pl ho ge o j) (cC pl ho p h) (cB n)=cB n)/\True)/\(decide (cB n=(0:Int))=true->(iW ([FD.int i64 st,FD.int i64 pl,FD.int i64 ho,FD.int i64 ge,FD.int i64 p,FD.int i64 h]++[list [Sh.list [int i64]] o j,FD.int i64 n])=true->(i64=i64/\(if dT (cG st pl ho ge o j) (cC pl ho p h) (cB n)=(0:Int) then aG st pl ho ge p h j n else (0:Int))=aG st pl ho ge p h j n)/\(i64=i64/\dT (cG st pl ho ge o j) (cC pl ho p h) (cB n)=(0:Int))/\True)/\(iW ([FD.int i64 st,FD.int i64 pl,FD.int i64 ho,FD.int i64 ge,FD.int i64 p,FD.int i64 h]++[list [Sh.list [int i64]] o j,FD.int i64 n])=false->False))))/\(decide (cC pl ho p h=(0:Int))=false->(decide (cC pl ho p h=(0:Int))=false->(i64=i64/\(if dT (cG st pl ho ge o j) (cC pl ho p h) (cB n)=(0:Int) then aG st pl ho ge p h j n else (0:Int))=(0:Int))/\(i64=i64/\dT (cG st pl ho ge o j) (cC pl ho p h) (cB n)=cC pl ho p h)/\True)/\(decide (cC pl ho p h=(0:Int))=true->(iW ([FD.int i64 st,FD.int i64 pl,FD.int i64 ho,FD.int i64 ge,FD.int i64 p,FD.int i64 h]++[list [Sh.list [int i64]] o j,FD.int i64 n])=true->(i64=i64/\(if dT (cG st pl ho ge o j) (cC pl ho p h) (cB n)=(0:Int) then aG st pl ho ge p h j n else (0:Int))=aG st pl ho ge p h j n)/\(i64=i64/\dT (cG st pl ho ge o j) (cC pl ho p h) (cB n)=(0:Int))/\True)/\(iW ([FD.int i64 st,FD.int i64 pl,FD.int i64 ho,FD.int i64 ge,FD.int i64 p,FD.int i64 h]++[list [Sh.list [int i64]] o j,FD.int i64 n])=false->False))))/\(true=false->False))/\(true=false->False)))/\(true=false->False)):=by kernel_rfl
 refine hvc.mpr ?_;clear hvc
 by_cases h1:cG st pl ho ge o j=0
 ·obtain ⟨e1,e2,e3,e4⟩:=qZ h1
  have e5:=kD e1
  have hth:cC pl ho p h=0->cB n=0->iW [.int .i64 st,.int .i64 pl,.int .i64 ho,.int .i64 ge,.int .i64 p,.int .i64 h,.list [.list [.int .i64]] o j,.int .i64 n]=true:=fun a b=>by
   have e6:=FH e5 a
   simp only [iW,e5,e6,e3,Bool.true_and];unfold cB at b;simp only [Bool.and_eq_true,decide_eq_true_eq];split at b
   ·omega
   ·omega
  by_cases h2:cC pl ho p h=0<;>by_cases h3:cB n=0<;>simp [h1,h2,h3,dT]<;>simp [hth h2 h3]
 ·simp [h1,dT]
end
end Go.Ex
namespace Go.Ex
open Go Go.Proofs Go.RowKit
open Go.IntKind (i64 wrap)
open Int (ofNat toNat)
open Prod (snd)
open Go.Ex.Ref (root)
open Go.Ex.Sh (int)
open Go.Ex.FD (list)
noncomputable section
def sm6:T Smf:=(T.set (T.set (T.set sm5 49 (some (gFd FK (.tup [.agg [.int .i64,.int .i64],.one (.int .i64)]) O0 FL))) 37 (some (gFd K5 (.tup [.one (.int .i64),.one (.int .i64)]) TZ K6))) 45 (some (gFd uR (.tup [.one (.int .i64),.one (.int .i64)]) FM uS)))
theorem K8:Tab fC sm6:=(Tab.set (Tab.set (Tab.set uQ (by kernel_rfl) (aV uQ cA RU rfl)) (by kernel_rfl) (aV uQ cA VS rfl)) (by kernel_rfl) (aV uQ cA K7 rfl))
def fM (st pl ho ge p h:Int)(n:Nat)(f:Nat->Nat->FD)(th:Int):Int:=dT (cG st pl ho ge n f) (cC pl ho p h) (if 0<=th/\th<=500000000 then 0 else 2)
def cL (S H:Nat)(f:Nat->Nat->FD)(x:Nat × Nat):Int:=((f (x.1%S) 0).fn (x.2%H) 0).i
def kE (g:Nat × Nat->Int):Int->Int->List (Nat × Nat)->Int
 | _,s,[]=>s
 | l,s,x::r=>if IntKind.i64.wrap (l-g x)<=0 then IntKind.i64.wrap (s+1) else kE g (IntKind.i64.wrap (l-g x)) (IntKind.i64.wrap (s+1)) r
def sfL (g:Nat × Nat->Int)(l:Int) (q:List (Nat × Nat)):Int:=q.foldl (fun a x=>IntKind.i64.wrap (a-g x)) l
def sfS (s:Int) (q:List (Nat × Nat)):Int:=q.foldl (fun a _=>IntKind.i64.wrap (a+1)) s
theorem YW (g:Nat × Nat->Int)(l:Int) (q:List (Nat × Nat)) (x:Nat × Nat):sfL g l (q++[x])=IntKind.i64.wrap (sfL g l q-g x):=by simp [sfL]
theorem YX (s:Int) (q:List (Nat × Nat)) (x:Nat × Nat):sfS s (q++[x])=IntKind.i64.wrap (sfS s q+1):=by simp [sfS]
def abv (th all:Int):Int:=IntKind.i64.wrap (Int.tdiv (IntKind.i64.wrap (th-1)) all)
def m7 (th all:Int):Int:=IntKind.i64.wrap (th-IntKind.i64.wrap (abv th all*all))
def lT (th all per:Int):Int:=IntKind.i64.wrap (abv th all*per)
def sfX (st pl ho ge p h:Int):List (Nat × Nat):=gZ st.toNat pl.toNat ge.toNat p.toNat h.toNat (aE st ho ge).toNat
def O2 (st pl ho ge p h:Int)(f:Nat->Nat->FD)(th:Int):Int:=kE (cL st.toNat ho.toNat f) (m7 th (aG st pl ho ge p h f (aE st ho ge))) (lT th (aG st pl ho ge p h f (aE st ho ge)) (aE st ho ge)) (sfX st pl ho ge p h)
def sfG (g:Nat × Nat->Int)(l s:Int) (X q:List (Nat × Nat)):Prop := ∀ rest,q++rest=X->kE g l s X=kE g (sfL g l q) (sfS s q) rest
def afa (g:Nat × Nat->Int)(l s:Int) (X q:List (Nat × Nat)):Prop := ∀ rest,q++rest=X->kE g l s X=sfS s q
theorem K9 (S H G:Nat):KV S H G<=S*H:=Nat.mul_le_mul (Nat.div_le_self _ _) (Nat.div_le_self _ _)
def gI (b:Bool)(a d:Int):Int:=bif b then a else d
def okB (st pl ho ge p h:Int)(n:Nat)(f:Nat->Nat->FD):Bool:=decide (cG st pl ho ge n f=0)&&decide (cC pl ho p h=0)
def sE:List PT:=[.agg [.int .i64,.int .i64,.int .i64,.int .i64],.one (.list [.list [.int .i64]]),.agg [.int .i64,.int .i64,.int .i64]]
def zI:List FD->Bool
 | [.int _ _,.int _ _,.int _ _,.int _ _,.list _ _ _,.int _ _,.int _ _,.int _ _]=>true
 | _=>false
def sF:List FD->List FD
 | [.int _ st,.int _ pl,.int _ ho,.int _ ge,.list _ o j,.int _ p,.int _ h,.int _ th]=>[.int .i64 (if fM st pl ho ge p h o j th=0 then (if th=0 then 0 else if aG st pl ho ge p h j (aE st ho ge)=0 then 0 else O2 st pl ho ge p h j th) else 0),.int .i64 (if fM st pl ho ge p h o j th=0 then (if th=0 then 0 else if aG st pl ho ge p h j (aE st ho ge)=0 then 17 else 0) else fM st pl ho ge p h o j th)]
 | _=>[]
def IV (_st _pl _ho _ge:Int)(_nfl:Nat)(_ffl:Nat->Nat->FD)(_p _h _th:Int):Nat->bT:=aW (fun _=>[])
def zJ (st pl ho ge:Int)(o:Nat)(j:Nat->Nat->FD)(p h th:Int):Nat->Option N9:=fun _=>some ⟨Nat,fun _=>{ α:=Nat × Nat,xs:=bif (okB st pl ho ge p h o j) then sfX st pl ho ge p h else [],args:=fun x=>[.int .i64 (.tm (ofNat (x.1%(gI (okB st pl ho ge p h o j) st 1).toNat))),.int .i64 (.tm (ofNat (x.2%(gI (okB st pl ho ge p h o j) ho 1).toNat)))],gf:=142,nums:=[[.int .i64 (.tm (gI (okB st pl ho ge p h o j) (aE st ho ge) 0))],[.int i64 (.tm (gI (okB st pl ho ge p h o j) st 1)),.int i64 (.tm (gI (okB st pl ho ge p h o j) pl 1)),.int i64 (.tm (gI (okB st pl ho ge p h o j) ho 1)),.int i64 (.tm (gI (okB st pl ho ge p h o j) ge 0)),.int i64 (.tm (gI (okB st pl ho ge p h o j) p 0)),.int i64 (.tm (gI (okB st pl ho ge p h o j) h 0))]],G:=sfG (cL st.toNat ho.toNat j) (m7 th (aG st pl ho ge p h j (aE st ho ge))) (lT th (aG st pl ho ge p h j (aE st ho ge)) (aE st ho ge)) (sfX st pl ho ge p h),bl:=fun q=>[(1,.cells 47 4 [.int i64 (.tm st),.int i64 (.tm pl),.int i64 (.tm ho),.int i64 (.tm ge)]),(2,.cells 48 1 [.fz (.root 0 4) (list [Sh.list [int i64]] o j)]),(3,.cells 75 3 [.int i64 (.tm p),.int i64 (.tm h),.int i64 (.tm th)]),(14,.cells 165 6 [.int i64 (.tm st),.int i64 (.tm pl),.int i64 (.tm ho),.int i64 (.tm ge),.int i64 (.tm p),.int i64 (.tm h)]),(15,.cells 3 1 [.int i64 (.tm (sfL (cL st.toNat ho.toNat j) (m7 th (aG st pl ho ge p h j (aE st ho ge))) q))]),(16,.cells 3 1 [.int i64 (.tm (sfS (lT th (aG st pl ho ge p h j (aE st ho ge)) (aE st ho ge)) q))]),(17,.cells 165 6 [.int i64 (.tm st),.int i64 (.tm pl),.int i64 (.tm ho),.int i64 (.tm ge),.int i64 (.tm p),.int i64 (.tm h)]),(18,.cells 3 1 [.int i64 (.tm (aE st ho ge))])],nx:=19,xid:=1,Gx:=afa (cL st.toNat ho.toNat j) (m7 th (aG st pl ho ge p h j (aE st ho ge))) (lT th (aG st pl ho ge p h j (aE st ho ge)) (aE st ho ge)) (sfX st pl ho ge p h),np:=2 }⟩
theorem LA (st pl ho ge:Int)(o:Nat)(j:Nat->Nat->FD)(p h th:Int) : ∀ i R,zJ st pl ho ge o j p h th i=some R -> ∀ z,(R.R z).Ok Try.prog η0:=by
 intro i R hR z
 cases hR
 refine ⟨?_,rfl,fun x=>⟨rfl,rfl⟩⟩
 by_cases hok:okB st pl ho ge p h o j=true
 ·have h12:=hok
  simp only [okB,Bool.and_eq_true,decide_eq_true_eq] at h12;obtain ⟨e1,e2,e3,e4⟩:=qZ h12.1
  have e6:=FH (kD e1) h12.2
  simp only [hok,gI,cond_true];obtain ⟨S,P,H,G,⟨rfl,rfl,rfl,rfl⟩,c1,c2,c3,c4,c5,c6,c7,c8⟩:=lS (kD e1);obtain ⟨Q,K,⟨rfl,rfl⟩,c9,c10⟩:=OL e6
  have hb:=K9 S H G
  have:S*H<=24*12:=Nat.mul_le_mul c2 c6
  have:=kC S P H G Q K (KV S H G) (by omega) (by omega) (by omega) (by omega) (by omega) (by omega) (by omega) (by omega)
  simp only [sfX,qY c2 c6,Int.toNat_natCast];exact this
 ·simp only [hok,gI,cond_false];exact kC 1 1 1 0 0 0 0 (by omega) (by omega) (by omega) (by omega) (by omega) (by omega) (by omega) (by omega)
abbrev hU (st pl ho ge p h:Int):Prop:=(i64=i64/\st=st)/\(i64=i64/\pl=pl)/\(i64=i64/\ho=ho)/\(i64=i64/\ge=ge)/\(i64=i64/\p=p)/\(i64=i64/\h=h)/\True
abbrev jF (st pl ho ge:Int)(o:Nat)(j:Nat->Nat->FD)(p h th:Int):Prop:=i64=i64/\(if fM st pl ho ge p h o j th=(0:Int) then if th=(0:Int) then (0:Int) else if aG st pl ho ge p h j (aE st ho ge)=(0:Int) then (0:Int) else O2 st pl ho ge p h j th else (0:Int))=(0:Int)
abbrev o6 (st pl ho ge:Int)(o:Nat)(j:Nat->Nat->FD)(p h th:Int):Prop:=(i64=i64/\(if fM st pl ho ge p h o j th=(0:Int) then if th=(0:Int) then (0:Int) else if aG st pl ho ge p h j (aE st ho ge)=(0:Int) then (17:Int) else (0:Int) else fM st pl ho ge p h o j th)=(0:Int))/\True
abbrev o7 (st pl ho ge:Int):Prop:=(i64=i64/\st=st)/\(i64=i64/\pl=pl)/\(i64=i64/\ho=ho)/\(i64=i64/\ge=ge)/\True
theorem AX:cT (mkR sm6 gs2) Try.prog η0 42 (FI.of Try.f42 true) sE (.tup [.one (.int .i64),.one (.int .i64)]) zI sF:=by
 refine BJ K8 cA Try.fok42 (fun fds=>match fds with | [.int _ st,.int _ pl,.int _ ho,.int _ ge,.list _ o j,.int _ p,.int _ h,.int _ th]=>IV st pl ho ge o j p h th | _=>aW fun _=>[]) (fun fds=>match fds with | [.int _ st,.int _ pl,.int _ ho,.int _ ge,.list _ o j,.int _ p,.int _ h,.int _ th]=>(zJ st pl ho ge o j p h th) | _=>noR) ?_
 intro fds hf hc;obtain ⟨st,ds0,rfl,hf1⟩:=hf.int;obtain ⟨pl,ds1,rfl,hf2⟩:=hf1.int;obtain ⟨ho,ds2,rfl,hf3⟩:=hf2.int;obtain ⟨ge,ds3,rfl,hf4⟩:=hf3.int;obtain ⟨o,j,ds4,rfl,gfl,hf5⟩:=hf4.list;obtain ⟨p,ds5,rfl,hf6⟩:=hf5.int;obtain ⟨h,ds6,rfl,hf7⟩:=hf6.int;obtain ⟨th,ds7,rfl,hf8⟩:=hf7.int;obtain rfl:=hf8.nil
 have hc:(true)=true:=hc
 have hvc:(vcF sm6 gs2 (FI.of Try.f42 true) sE (.tup [.one (.int .i64),.one (.int .i64)]) (IV st pl ho ge o j p h th) (zJ st pl ho ge o j p h th) [.int .i64 st,.int .i64 pl,.int .i64 ho,.int .i64 ge,.list [.list [.int .i64]] o j,.int .i64 p,.int .i64 h,.int .i64 th] (sF [.int .i64 st,.int .i64 pl,.int .i64 ho,.int .i64 ge,.list [.list [.int .i64]] o j,.int .i64 p,.int .i64 h,.int .i64 th]))=
  (true=true/\(true=true->(decide (cG st pl ho ge o j=(0:Int))=false->jF st pl ho ge o j p h th/\(i64=i64/\(if fM st pl ho ge p h o j th=(0:Int) then if th=(0:Int) then (0:Int) else if aG st pl ho ge p h j (aE st ho ge)=(0:Int) then (17:Int) else (0:Int) else fM st pl ho ge p h o j th)=cG st pl ho ge o j)/\True)/\(decide (cG st pl ho ge o j=(0:Int))=true->(true=true->(decide (cC pl ho p h=(0:Int))=false->jF st pl ho ge o j p h th/\(i64=i64/\(if fM st pl ho ge p h o j th=(0:Int) then if th=(0:Int) then (0:Int) else if aG st pl ho ge p h j (aE st ho ge)=(0:Int) then (17:Int) else (0:Int) else fM st pl ho ge p h o j th)=cC pl ho p h)/\True)/\(decide (cC pl ho p h=(0:Int))=true->(true=true->((decide ((0:Int)<=th)&&decide (th<=(500000000:Int)))=false->jF st pl ho ge o j p h th/\(i64=i64/\(if fM st pl ho ge p h o j th=(0:Int) then if th=(0:Int) then (0:Int) else if aG st pl ho ge p h j (aE st ho ge)=(0:Int) then (17:Int) else (0:Int) else fM st pl ho ge p h o j th)=(2:Int))/\True)/\((decide ((0:Int)<=th)&&decide (th<=(500000000:Int)))=true->(e9 ([FD.int i64 st,FD.int i64 pl,FD.int i64 ho,FD.int i64 ge]++[])=true->(iW ([FD.int i64 st,FD.int i64 pl,FD.int i64 ho,FD.int i64 ge,FD.int i64 p,FD.int i64 h]++[list [Sh.list [int i64]] o j,FD.int i64 (aE st ho ge)])=true->(decide (th=(0:Int))=true->jF st pl ho ge o j p h th/\o6 st pl ho ge o j p h th)/\(decide (th=(0:Int))=false->(decide (aG st pl ho ge p h j (aE st ho ge)=(0:Int))=true->jF st pl ho ge o j p h th/\(i64=i64/\(if fM st pl ho ge p h o j th=(0:Int) then if th=(0:Int) then (0:Int) else if aG st pl ho ge p h j (aE st ho ge)=(0:Int) then (17:Int) else (0:Int) else fM st pl ho ge p h o j th)=(17:Int))/\True)/\(decide (aG st pl ho ge p h j (aE st ho ge)=(0:Int))=false->((! (decide (aG st pl ho ge p h j (aE st ho ge)=(0:Int))))=true-> ∃y0:Nat,(((true=true/\ ∀y1:List (Nat×Nat),(snd ((1:Nat)+(1:Nat)+(1:Nat)+(1:Nat)+((0:Nat)+(1:Nat)+(1:Nat)+(1:Nat)+(1:Nat)+(1:Nat)+(1:Nat)+(1:Nat)+(1:Nat)+(1:Nat)+(1:Nat)+(1:Nat))+(1:Nat)+(1:Nat)+(1:Nat),(0:Nat))=(0:Nat)/\[Sc.int i64 (Ix.tm (aE st ho ge))]=[Sc.int i64 (Ix.tm (gI (okB st pl ho ge p h o j) (aE st ho ge) (0:Int)))])/\(snd ((1:Nat)+(1:Nat)+(1:Nat)+(1:Nat)+((0:Nat)+(1:Nat)+(1:Nat)+(1:Nat)+(1:Nat)+(1:Nat)+(1:Nat)+(1:Nat)+(1:Nat)+(1:Nat)+(1:Nat)+(1:Nat))+(1:Nat)+(1:Nat),(0:Nat))=(0:Nat)/\[Sc.int i64 (Ix.tm st),Sc.int i64 (Ix.tm pl),Sc.int i64 (Ix.tm ho),Sc.int i64 (Ix.tm ge),Sc.int i64 (Ix.tm p),Sc.int i64 (Ix.tm h)]=[Sc.int i64 (Ix.tm (gI (okB st pl ho ge p h o j) st (1:Int))),Sc.int i64 (Ix.tm (gI (okB st pl ho ge p h o j) pl (1:Int))),Sc.int i64 (Ix.tm (gI (okB st pl ho ge p h o j) ho (1:Int))),Sc.int i64 (Ix.tm (gI (okB st pl ho ge p h o j) ge (0:Int))),Sc.int i64 (Ix.tm (gI (okB st pl ho ge p h o j) p (0:Int))),Sc.int i64 (Ix.tm (gI (okB st pl ho ge p h o j) h (0:Int)))])/\True)/\(∀y1:List (Nat×Nat),[]++y1=sfX st pl ho ge p h->kE (cL (toNat st) (toNat ho) j) (m7 th (aG st pl ho ge p h j (aE st ho ge))) (lT th (aG st pl ho ge p h j (aE st ho ge)) (aE st ho ge)) (sfX st pl ho ge p h)=kE (cL (toNat st) (toNat ho) j) (sfL (cL (toNat st) (toNat ho) j) (m7 th (aG st pl ho ge p h j (aE st ho ge))) []) (sfS (lT th (aG st pl ho ge p h j (aE st ho ge)) (aE st ho ge)) []) y1)/\true=true/\((47:TypeId)=(47:Nat)/\(4:Nat)=List.length [Sc.int i64 (Ix.tm st),Sc.int i64 (Ix.tm pl),Sc.int i64 (Ix.tm ho),Sc.int i64 (Ix.tm ge)]/\o7 st pl ho ge)/\((48:TypeId)=(48:Nat)/\(1:Nat)=List.length [Sc.fz (root (0:Nat) ((0:Nat)+List.length [int i64,int i64,int i64,int i64])) (list [Sh.list [int i64]] o j)]/\(root 0 4=root 0 4/\list [Sh.list [int i64]] o j=list [Sh.list [int i64]] o j/\true=true)/\True)/\((75:TypeId)=(75:Nat)/\(3:Nat)=List.length [Sc.int i64 (Ix.tm p),Sc.int i64 (Ix.tm h),Sc.int i64 (Ix.tm th)]/\(i64=i64/\p=p)/\(i64=i64/\h=h)/\(i64=i64/\th=th)/\True)/\((165:TypeId)=(165:Nat)/\(6:Nat)=(6:Nat)/\hU st pl ho ge p h)/\((3:TypeId)=(3:Nat)/\(1:Nat)=(1:Nat)/\(i64=i64/\sfL (cL (toNat st) (toNat ho) j) (m7 th (aG st pl ho ge p h j (aE st ho ge))) []=wrap i64 (th-wrap i64 (wrap i64 (Int.tdiv (wrap i64 (th-(1:Int))) (aG st pl ho ge p h j (aE st ho ge)))*aG st pl ho ge p h j (aE st ho ge))))/\True)/\((3:TypeId)=(3:Nat)/\(1:Nat)=(1:Nat)/\(i64=i64/\sfS (lT th (aG st pl ho ge p h j (aE st ho ge)) (aE st ho ge)) []=wrap i64 (wrap i64 (Int.tdiv (wrap i64 (th-(1:Int))) (aG st pl ho ge p h j (aE st ho ge)))*aE st ho ge))/\True)/\((165:TypeId)=(165:Nat)/\(6:Nat)=List.length [Sc.int i64 (Ix.tm st),Sc.int i64 (Ix.tm pl),Sc.int i64 (Ix.tm ho),Sc.int i64 (Ix.tm ge),Sc.int i64 (Ix.tm p),Sc.int i64 (Ix.tm h)]/\hU st pl ho ge p h)/\((3:TypeId)=(3:Nat)/\(1:Nat)=List.length [Sc.int i64 (Ix.tm (aE st ho ge))]/\(i64=i64/\aE st ho ge=aE st ho ge)/\True)/\True)/\(∀y1:Nat×Nat,True)/\ ∀y1:List (Nat×Nat),∀y2:Nat×Nat,(∀y3:List (Nat×Nat),y1++y3=sfX st pl ho ge p h->kE (cL (toNat st) (toNat ho) j) (m7 th (aG st pl ho ge p h j (aE st ho ge))) (lT th (aG st pl ho ge p h j (aE st ho ge)) (aE st ho ge)) (sfX st pl ho ge p h)=kE (cL (toNat st) (toNat ho) j) (sfL (cL (toNat st) (toNat ho) j) (m7 th (aG st pl ho ge p h j (aE st ho ge))) y1) (sfS (lT th (aG st pl ho ge p h j (aE st ho ge)) (aE st ho ge)) y1) y3)->List.length y1<List.length (bif okB st pl ho ge p h o j then sfX st pl ho ge p h else [])->((decide ((0:Int)<=ofNat (Prod.fst y2%toNat (gI (okB st pl ho ge p h o j) st (1:Int))))&&decide (ofNat (Prod.fst y2%toNat (gI (okB st pl ho ge p h o j) st (1:Int)))<(↑o:Int)))=true->((decide ((0:Int)<=ofNat (snd y2%toNat (gI (okB st pl ho ge p h o j) ho (1:Int))))&&decide (ofNat (snd y2%toNat (gI (okB st pl ho ge p h o j) ho (1:Int)))<(↑(FD.ln (j (toNat (ofNat (Prod.fst y2%toNat (gI (okB st pl ho ge p h o j) st (1:Int))))) (0:Nat))):Int)))=true->(decide ((0:Int)<wrap i64 (sfL (cL (toNat st) (toNat ho) j) (m7 th (aG st pl ho ge p h j (aE st ho ge))) y1-FD.i (FD.fn (j (toNat (ofNat (Prod.fst y2%toNat (gI (okB st pl ho ge p h o j) st (1:Int))))) (0:Nat)) (toNat (ofNat (snd y2%toNat (gI (okB st pl ho ge p h o j) ho (1:Int))))) (0:Nat))))=false->((1:Nat)=(1:Nat)/\ ∀y3:List (Nat×Nat),y1++[y2]++y3=sfX st pl ho ge p h->kE (cL (toNat st) (toNat ho) j) (m7 th (aG st pl ho ge p h j (aE st ho ge))) (lT th (aG st pl ho ge p h j (aE st ho ge)) (aE st ho ge)) (sfX st pl ho ge p h)=sfS (lT th (aG st pl ho ge p h j (aE st ho ge)) (aE st ho ge)) (y1++[y2]))/\true=true/\((47:TypeId)=(47:TypeId)/\(4:Nat)=(4:Nat)/\o7 st pl ho ge)/\((48:TypeId)=(48:TypeId)/\(1:Nat)=(1:Nat)/\(root 0 4=root 0 4/\list [Sh.list [int i64]] o j=list [Sh.list [int i64]] o j/\true=true)/\True)/\((75:TypeId)=(75:TypeId)/\(3:Nat)=(3:Nat)/\(i64=i64/\p=p)/\(i64=i64/\h=h)/\(i64=i64/\th=th)/\True)/\((165:TypeId)=(165:TypeId)/\(6:Nat)=(6:Nat)/\hU st pl ho ge p h)/\((3:TypeId)=(3:TypeId)/\(1:Nat)=(1:Nat)/\(i64=i64/\sfL (cL (toNat st) (toNat ho) j) (m7 th (aG st pl ho ge p h j (aE st ho ge))) (y1++[y2])=wrap i64 (sfL (cL (toNat st) (toNat ho) j) (m7 th (aG st pl ho ge p h j (aE st ho ge))) y1-FD.i (FD.fn (j (toNat (ofNat (Prod.fst y2%toNat (gI (okB st pl ho ge p h o j) st (1:Int))))) (0:Nat)) (toNat (ofNat (snd y2%toNat (gI (okB st pl ho ge p h o j) ho (1:Int))))) (0:Nat))))/\True)/\((3:TypeId)=(3:TypeId)/\(1:Nat)=(1:Nat)/\(i64=i64/\sfS (lT th (aG st pl ho ge p h j (aE st ho ge)) (aE st ho ge)) (y1++[y2])=wrap i64 (sfS (lT th (aG st pl ho ge p h j (aE st ho ge)) (aE st ho ge)) y1+(1:Int)))/\True)/\((165:TypeId)=(165:TypeId)/\(6:Nat)=(6:Nat)/\hU st pl ho ge p h)/\((3:TypeId)=(3:TypeId)/\(1:Nat)=(1:Nat)/\(i64=i64/\aE st ho ge=aE st ho ge)/\True)/\True)/\(decide ((0:Int)<wrap i64 (sfL (cL (toNat st) (toNat ho) j) (m7 th (aG st pl ho ge p h j (aE st ho ge))) y1-FD.i (FD.fn (j (toNat (ofNat (Prod.fst y2%toNat (gI (okB st pl ho ge p h o j) st (1:Int))))) (0:Nat)) (toNat (ofNat (snd y2%toNat (gI (okB st pl ho ge p h o j) ho (1:Int))))) (0:Nat))))=true->(∀y3:List (Nat×Nat),y1++[y2]++y3=sfX st pl ho ge p h->kE (cL (toNat st) (toNat ho) j) (m7 th (aG st pl ho ge p h j (aE st ho ge))) (lT th (aG st pl ho ge p h j (aE st ho ge)) (aE st ho ge)) (sfX st pl ho ge p h)=kE (cL (toNat st) (toNat ho) j) (sfL (cL (toNat st) (toNat ho) j) (m7 th (aG st pl ho ge p h j (aE st ho ge))) (y1++[y2])) (sfS (lT th (aG st pl ho ge p h j (aE st ho ge)) (aE st ho ge)) (y1++[y2])) y3)/\true=true/\((47:TypeId)=(47:TypeId)/\(4:Nat)=(4:Nat)/\o7 st pl ho ge)/\((48:TypeId)=(48:TypeId)/\(1:Nat)=(1:Nat)/\(root 0 4=root 0 4/\list [Sh.list [int i64]] o j=list [Sh.list [int i64]] o j/\true=true)/\True)/\((75:TypeId)=(75:TypeId)/\(3:Nat)=(3:Nat)/\(i64=i64/\p=p)/\(i64=i64/\h=h)/\(i64=i64/\th=th)/\True)/\((165:TypeId)=(165:TypeId)/\(6:Nat)=(6:Nat)/\hU st pl ho ge p h)/\((3:TypeId)=(3:TypeId)/\(1:Nat)=(1:Nat)/\(i64=i64/\sfL (cL (toNat st) (toNat ho) j) (m7 th (aG st pl ho ge p h j (aE st ho ge))) (y1++[y2])=wrap i64 (sfL (cL (toNat st) (toNat ho) j) (m7 th (aG st pl ho ge p h j (aE st ho ge))) y1-FD.i (FD.fn (j (toNat (ofNat (Prod.fst y2%toNat (gI (okB st pl ho ge p h o j) st (1:Int))))) (0:Nat)) (toNat (ofNat (snd y2%toNat (gI (okB st pl ho ge p h o j) ho (1:Int))))) (0:Nat))))/\True)/\((3:TypeId)=(3:TypeId)/\(1:Nat)=(1:Nat)/\(i64=i64/\sfS (lT th (aG st pl ho ge p h j (aE st ho ge)) (aE st ho ge)) (y1++[y2])=wrap i64 (sfS (lT th (aG st pl ho ge p h j (aE st ho ge)) (aE st ho ge)) y1+(1:Int)))/\True)/\((165:TypeId)=(165:TypeId)/\(6:Nat)=(6:Nat)/\hU st pl ho ge p h)/\((3:TypeId)=(3:TypeId)/\(1:Nat)=(1:Nat)/\(i64=i64/\aE st ho ge=aE st ho ge)/\True)/\True))/\((decide ((0:Int)<=ofNat (snd y2%toNat (gI (okB st pl ho ge p h o j) ho (1:Int))))&&decide (ofNat (snd y2%toNat (gI (okB st pl ho ge p h o j) ho (1:Int)))<(↑(FD.ln (j (toNat (ofNat (Prod.fst y2%toNat (gI (okB st pl ho ge p h o j) st (1:Int))))) (0:Nat))):Int)))=false->False))/\((decide ((0:Int)<=ofNat (Prod.fst y2%toNat (gI (okB st pl ho ge p h o j) st (1:Int))))&&decide (ofNat (Prod.fst y2%toNat (gI (okB st pl ho ge p h o j) st (1:Int)))<(↑o:Int)))=false->False))/\((∀y1:List (Nat×Nat),(bif okB st pl ho ge p h o j then sfX st pl ho ge p h else [])++y1=sfX st pl ho ge p h->kE (cL (toNat st) (toNat ho) j) (m7 th (aG st pl ho ge p h j (aE st ho ge))) (lT th (aG st pl ho ge p h j (aE st ho ge)) (aE st ho ge)) (sfX st pl ho ge p h)=kE (cL (toNat st) (toNat ho) j) (sfL (cL (toNat st) (toNat ho) j) (m7 th (aG st pl ho ge p h j (aE st ho ge))) (bif okB st pl ho ge p h o j then sfX st pl ho ge p h else [])) (sfS (lT th (aG st pl ho ge p h j (aE st ho ge)) (aE st ho ge)) (bif okB st pl ho ge p h o j then sfX st pl ho ge p h else [])) y1)->(i64=i64/\(if fM st pl ho ge p h o j th=(0:Int) then if th=(0:Int) then (0:Int) else if aG st pl ho ge p h j (aE st ho ge)=(0:Int) then (0:Int) else O2 st pl ho ge p h j th else (0:Int))=sfS (lT th (aG st pl ho ge p h j (aE st ho ge)) (aE st ho ge)) (bif okB st pl ho ge p h o j then sfX st pl ho ge p h else []))/\o6 st pl ho ge o j p h th)/\ ∀y1:List (Nat×Nat),(∃y2:List (Nat×Nat),y1++y2=bif okB st pl ho ge p h o j then sfX st pl ho ge p h else [])->(∀y2:List (Nat×Nat),y1++y2=sfX st pl ho ge p h->kE (cL (toNat st) (toNat ho) j) (m7 th (aG st pl ho ge p h j (aE st ho ge))) (lT th (aG st pl ho ge p h j (aE st ho ge)) (aE st ho ge)) (sfX st pl ho ge p h)=sfS (lT th (aG st pl ho ge p h j (aE st ho ge)) (aE st ho ge)) y1)->(i64=i64/\(if fM st pl ho ge p h o j th=(0:Int) then if th=(0:Int) then (0:Int) else if aG st pl ho ge p h j (aE st ho ge)=(0:Int) then (0:Int) else O2 st pl ho ge p h j th else (0:Int))=sfS (lT th (aG st pl ho ge p h j (aE st ho ge)) (aE st ho ge)) y1)/\o6 st pl ho ge o j p h th)/\((! (decide (aG st pl ho ge p h j (aE st ho ge)=(0:Int))))=false->False))))/\(iW ([FD.int i64 st,FD.int i64 pl,FD.int i64 ho,FD.int i64 ge,FD.int i64 p,FD.int i64 h]++[list [Sh.list [int i64]] o j,FD.int i64 (aE st ho ge)])=false->False))/\(e9 ([FD.int i64 st,FD.int i64 pl,FD.int i64 ho,FD.int i64 ge]++[])=false->False)))/\(true=false->False)))/\(true=false->False)))/\(true=false->False)):=by kernel_rfl
 refine ⟨LA st pl ho ge o j p h th,hvc.mpr ?_⟩;clear hvc;dsimp only [hU,jF,o6,o7]
 by_cases h1:cG st pl ho ge o j=0
 ·by_cases h2:cC pl ho p h=0
  ·by_cases h3:0<=th/\th<=500000000
   ·have hw:fM st pl ho ge p h o j th=0:=by simp [fM,h1,h2,h3,dT]
    have hok:okB st pl ho ge p h o j=true:=by simp [okB,h1,h2]
    obtain ⟨e1,e2,e3,e4⟩:=qZ h1
    have e5:=kD e1
    have e6:=FH e5 h2
    obtain ⟨S,P,H,G,⟨r1,r2,r3,r4⟩,c1,c2,c3,c4,c5,c6,c7,c8⟩:=lS e5
    have hper:aE st ho ge=(KV S H G:Nat):=by rw [r1,r3,r4];exact qY (by omega) (by omega)
    have hb:=K9 S H G
    have hT:iW [.int .i64 st,.int .i64 pl,.int .i64 ho,.int .i64 ge,.int .i64 p,.int .i64 h,.list [.list [.int .i64]] o j,.int .i64 (aE st ho ge)]=true:=by
     simp only [iW,e5,e6,e3,Bool.true_and,hper,Bool.and_eq_true,decide_eq_true_eq]
     have:S*H<=24*12:=Nat.mul_le_mul c2 c6
     omega
    by_cases h4:th=0
    ·subst h4;simp [h1,h2,hw,nW e1,hT]
    ·by_cases h5:aG st pl ho ge p h j (aE st ho ge)=0
     ·simp [h1,h2,hw,hok,gI,nW e1,-Int.natCast_emod,hT,h3,h4,h5]
     ·obtain ⟨w1,w2⟩:=EQ (show AV (S:Int) (H:Int) o j=true by rw [←r1,←r3];exact e3)
      have q1 : ∀ a:Nat,a%st.toNat<o:=fun a=>by
       have:=Nat.mod_lt a (show 0<st.toNat by omega)
       omega
      have q2 : ∀ a b:Nat,b%ho.toNat<(j (a%st.toNat) 0).ln:=fun a b=>by
       have:=Nat.mod_lt b (show 0<ho.toNat by omega)
       have:=w2 (a%st.toNat) (by have:=Nat.mod_lt a (show 0<st.toNat by omega);omega)
       omega
      simp [h1,h2,hw,hok,gI,nW e1,-Int.natCast_emod,hT,h3,h4,h5,q1,q2,YW,YX];simp only [show ∀ a b:Nat,((j (a%st.toNat) 0).fn (b%ho.toNat) 0).i=cL st.toNat ho.toNat j (a,b) from fun _ _=>rfl,O2]
      generalize cL st.toNat ho.toNat j=g
      refine ⟨⟨⟨rfl,rfl,rfl⟩,fun y a b hy _=>⟨fun hx=>⟨fun r hr => ?_,trivial⟩,fun hx=>⟨fun r hr => ?_,trivial⟩⟩⟩,fun h => ?_,fun y x hyx h=>h x hyx⟩
      ·rw [hy ((a,b)::r) hr,kE,if_pos hx]
      ·rw [hy ((a,b)::r) hr,kE,if_neg (by omega)]
      ·rw [h];rfl
   ·have hw:fM st pl ho ge p h o j th=2:=by simp only [fM,h1,h2,dT,if_true,if_neg h3]
    simp [h1,h2,hw];omega
  ·have hw:fM st pl ho ge p h o j th=cC pl ho p h:=by simp [fM,h1,h2,dT]
   simp [h1,h2,hw]
 ·have hw:fM st pl ho ge p h o j th=cG st pl ho ge o j:=by simp [fM,h1,dT]
  simp [h1,hw]
end
end Go.Ex
namespace Go.Ex
open Go Go.Proofs Go.RowKit
open Go.IntKind (i64 wrap)
open Int (ofNat toNat)
open Prod (snd)
open Go.Ex.Ref (root)
open Go.Ex.Sh (int)
open Go.Ex.FD (list)
noncomputable section
def sm7:T Smf:=(T.set sm6 42 (some (gFd sE (.tup [.one (.int .i64),.one (.int .i64)]) zI sF)))
theorem FO:Tab fC sm7:=(Tab.set K8 (by kernel_rfl) (aV K8 cA AX rfl))
def bZ (f:Nat->Nat->FD):Nat->Int
 | 0=>(f 0 0).i
 | n+1=>if bZ f n<(f n 0).i then (f n 0).i else bZ f n
def eK (f:Nat->Nat->FD):Nat->Int
 | 0=>(f 0 0).i
 | n+1=>if (f n 0).i<eK f n then (f n 0).i else eK f n
def YY:List PT:=[.one (.list [.int .i64])]
def tB:List FD->Bool
 | [.list _ na _]=>Nat.ble 1 na
 | _=>false
def YZ:List FD->List FD
 | [.list _ na fa]=>[.int .i64 (bZ fa na)]
 | _=>[]
def abw (na:Nat)(fa:Nat->Nat->FD):Nat->bT:=fun i=>match i with | 5=>⟨Nat,fun _=>[{ι:=Nat,G:=fun x=>1<=x/\x<=na,μ:=fun x=>na-x,tl:=fun x=>[(0,.one (.fz (.root 0 0) (list [int i64] na fa))),(3,.one (.int i64 (.tm (bZ fa x)))),(4,.one (.int i64 (.tm (ofNat x)))),(5,.one (.fz (.root 0 0) (list [int i64] na fa))),(6,.one (.int i64 (.tm (ofNat na)))),(9,.one (.fz (.root 0 0) (list [int i64] na fa)))],bl:=fun _=>[],nx:=(1:Nat)}]⟩ | _=>⟨Nat,fun _=>[]⟩
theorem aaX:cT (mkR sm7 gs2) Try.prog η0 90 (FI.of Try.f90 true) YY (.one (.int .i64)) tB YZ:=by
 refine aL FO cA Try.fok90 (fun fds=>match fds with | [.list _ na fa]=>abw na fa | _=>aW fun _=>[]) ?_
 intro fds hf hc;obtain ⟨na,fa,ds0,rfl,ga,hf1⟩:=hf.list;obtain rfl:=hf1.nil
 have hc:(Nat.ble 1 na)=true:=hc
 have hvc:(vcF sm7 gs2 (FI.of Try.f90 true) YY (.one (.int .i64)) (abw na fa) noR [.list [.int .i64] na fa] (YZ [.list [.int .i64] na fa]))=
  (true=true/\(decide (ofNat na<(1:Int))=true->False)/\(decide (ofNat na<(1:Int))=false->((decide ((0:Int)<=(0:Int))&&decide ((0:Int)<(↑na:Int)))=true-> ∃y0:Nat,(∃y1:Nat,(((1:Nat)<=y1/\y1<=na)/\True)/\(true=true/\(root 0 0=root 0 0/\list [int i64] na fa=list [int i64] na fa/\true=true)/\(i64=i64/\bZ fa y1=FD.i (fa (toNat (0:Int)) (0:Nat)))/\(i64=i64/\ofNat y1=(1:Int))/\(root 0 0=root 0 0/\list [int i64] na fa=list [int i64] na fa/\true=true)/\(i64=i64/\ofNat na=ofNat na)/\(root 0 0=root 0 0/\list [int i64] na fa=list [int i64] na fa/\true=true)/\True)/\True)/\ ∀y1:Nat,(1:Nat)<=y1/\y1<=na->(decide (ofNat y1<ofNat na)=true->((decide ((0:Int)<=ofNat y1)&&decide (ofNat y1<(↑na:Int)))=true-> ∃y2:Nat,(((1:Nat)<=y2/\y2<=na)/\na-y2<na-y1)/\(true=true/\(root 0 0=root 0 0/\list [int i64] na fa=list [int i64] na fa/\true=true)/\(i64=i64/\bZ fa y2=if bZ fa y1<FD.i (fa (toNat (ofNat y1)) (0:Nat)) then FD.i (fa (toNat (ofNat y1)) (0:Nat)) else bZ fa y1)/\(i64=i64/\ofNat y2=wrap i64 (ofNat y1+(1:Int)))/\(root 0 0=root 0 0/\list [int i64] na fa=list [int i64] na fa/\true=true)/\(i64=i64/\ofNat na=ofNat na)/\(root 0 0=root 0 0/\list [int i64] na fa=list [int i64] na fa/\true=true)/\True)/\True)/\((decide ((0:Int)<=ofNat y1)&&decide (ofNat y1<(↑na:Int)))=false->False))/\(decide (ofNat y1<ofNat na)=false->i64=i64/\bZ fa na=bZ fa y1))/\((decide ((0:Int)<=(0:Int))&&decide ((0:Int)<(↑na:Int)))=false->False))):=by kernel_rfl
 refine hvc.mpr ?_;clear hvc
 have hc:=Nat.le_of_ble_eq_true hc
 have hl:=ga.len
 have hl':maxLen=9223372036854775807:=rfl
 simp;refine ⟨by omega,fun _=>⟨fun _=>⟨⟨1,⟨by omega,by omega⟩,by simp [bZ],rfl⟩,fun x h1 h2=>⟨fun h=>⟨fun _=>⟨x+1,⟨⟨by omega,by omega⟩,by omega⟩,rfl,?_⟩,h⟩,fun h=>by rw [show x=na by omega]⟩⟩,by omega⟩⟩
 rw [aO (by omega) (by omega)]
 rfl
def Y0:List PT:=[.one (.list [.int .i64])]
def O3:List FD->Bool
 | [.list _ na _]=>Nat.ble 1 na
 | _=>false
def Y1:List FD->List FD
 | [.list _ na fa]=>[.int .i64 (eK fa na)]
 | _=>[]
def abx (na:Nat)(fa:Nat->Nat->FD):Nat->bT:=fun i=>match i with | 5=>⟨Nat,fun _=>[{ι:=Nat,G:=fun x=>1<=x/\x<=na,μ:=fun x=>na-x,tl:=fun x=>[(0,.one (.fz (.root 0 0) (list [int i64] na fa))),(3,.one (.int i64 (.tm (eK fa x)))),(4,.one (.int i64 (.tm (ofNat x)))),(5,.one (.fz (.root 0 0) (list [int i64] na fa))),(6,.one (.int i64 (.tm (ofNat na)))),(9,.one (.fz (.root 0 0) (list [int i64] na fa)))],bl:=fun _=>[],nx:=(1:Nat)}]⟩ | _=>⟨Nat,fun _=>[]⟩
theorem aaY:cT (mkR sm7 gs2) Try.prog η0 89 (FI.of Try.f89 true) Y0 (.one (.int .i64)) O3 Y1:=by
 refine aL FO cA Try.fok89 (fun fds=>match fds with | [.list _ na fa]=>abx na fa | _=>aW fun _=>[]) ?_
 intro fds hf hc;obtain ⟨na,fa,ds0,rfl,ga,hf1⟩:=hf.list;obtain rfl:=hf1.nil
 have hc:(Nat.ble 1 na)=true:=hc
 have hvc:(vcF sm7 gs2 (FI.of Try.f89 true) Y0 (.one (.int .i64)) (abx na fa) noR [.list [.int .i64] na fa] (Y1 [.list [.int .i64] na fa]))=
  (true=true/\(decide (ofNat na<(1:Int))=true->False)/\(decide (ofNat na<(1:Int))=false->((decide ((0:Int)<=(0:Int))&&decide ((0:Int)<(↑na:Int)))=true-> ∃y0:Nat,(∃y1:Nat,(((1:Nat)<=y1/\y1<=na)/\True)/\(true=true/\(root 0 0=root 0 0/\list [int i64] na fa=list [int i64] na fa/\true=true)/\(i64=i64/\eK fa y1=FD.i (fa (toNat (0:Int)) (0:Nat)))/\(i64=i64/\ofNat y1=(1:Int))/\(root 0 0=root 0 0/\list [int i64] na fa=list [int i64] na fa/\true=true)/\(i64=i64/\ofNat na=ofNat na)/\(root 0 0=root 0 0/\list [int i64] na fa=list [int i64] na fa/\true=true)/\True)/\True)/\ ∀y1:Nat,(1:Nat)<=y1/\y1<=na->(decide (ofNat y1<ofNat na)=true->((decide ((0:Int)<=ofNat y1)&&decide (ofNat y1<(↑na:Int)))=true-> ∃y2:Nat,(((1:Nat)<=y2/\y2<=na)/\na-y2<na-y1)/\(true=true/\(root 0 0=root 0 0/\list [int i64] na fa=list [int i64] na fa/\true=true)/\(i64=i64/\eK fa y2=if FD.i (fa (toNat (ofNat y1)) (0:Nat))<eK fa y1 then FD.i (fa (toNat (ofNat y1)) (0:Nat)) else eK fa y1)/\(i64=i64/\ofNat y2=wrap i64 (ofNat y1+(1:Int)))/\(root 0 0=root 0 0/\list [int i64] na fa=list [int i64] na fa/\true=true)/\(i64=i64/\ofNat na=ofNat na)/\(root 0 0=root 0 0/\list [int i64] na fa=list [int i64] na fa/\true=true)/\True)/\True)/\((decide ((0:Int)<=ofNat y1)&&decide (ofNat y1<(↑na:Int)))=false->False))/\(decide (ofNat y1<ofNat na)=false->i64=i64/\eK fa na=eK fa y1))/\((decide ((0:Int)<=(0:Int))&&decide ((0:Int)<(↑na:Int)))=false->False))):=by kernel_rfl
 refine hvc.mpr ?_;clear hvc
 have hc:=Nat.le_of_ble_eq_true hc
 have hl:=ga.len
 have hl':maxLen=9223372036854775807:=rfl
 simp;refine ⟨by omega,fun _=>⟨fun _=>⟨⟨1,⟨by omega,by omega⟩,by simp [eK],rfl⟩,fun x h1 h2=>⟨fun h=>⟨fun _=>⟨x+1,⟨⟨by omega,by omega⟩,by omega⟩,rfl,?_⟩,h⟩,fun h=>by rw [show x=na by omega]⟩⟩,by omega⟩⟩
 rw [aO (by omega) (by omega)]
 rfl
theorem RV {f:Nat->Nat->FD} {M:Int} : ∀ {n:Nat},1<=n->(∀ i,i<n->0<=(f i 0).i/\(f i 0).i<=M)->0<=eK f n/\eK f n<=bZ f n/\bZ f n<=M
 | n+1,_,h=>by
  have h0:=h n (by omega)
  rcases Nat.eq_zero_or_pos n with rfl | hn
  ·simp only [eK,bZ,ite_self];omega
  ·have ih:=RV (f:=f) (n:=n) hn fun i hi=>h i (by omega)
   simp only [eK,bZ];split<;>split<;>omega
theorem T1 {hi:Int} {n:Nat} {f:Nat->Nat->FD} (h:dK (fun i=>bB hi (f i 0).i) n 0=false) : ∀ i,i<n->0<=(f i 0).i/\(f i 0).i<=hi:=fun i hi'=>by
 have:=lM h i (by omega) (by omega)
 simp only [bB,Bool.not_eq_false',Bool.and_eq_true,decide_eq_true_eq] at this;exact this
theorem aaZ {a b:Int} (ha:0<=a) (hb:0<b):aU a b≠0:=by
 obtain ⟨A,rfl⟩:=Int.eq_ofNat_of_zero_le ha;obtain ⟨B,rfl⟩:=Int.eq_ofNat_of_zero_le (show 0<=b by omega)
 rw [nU]
 have:=Nat.gcd_pos_of_pos_right A (show 0<B by omega)
 omega
def sm8:T Smf:=(T.set (T.set sm7 90 (some (gFd YY (.one (.int .i64)) tB YZ))) 89 (some (gFd Y0 (.one (.int .i64)) O3 Y1)))
theorem RW:Tab fC sm8:=(Tab.set (Tab.set FO (by kernel_rfl) (aV FO cA aaX rfl)) (by kernel_rfl) (aV FO cA aaY rfl))
def pK (a b:Int):Int:=IntKind.i64.wrap (a.tdiv b)
def dJ (n:Nat)(f:Nat->Nat->FD):Int:=if n=0 then 7 else if dK (fun i=>bB 500000000 (f i 0).i) n 0=true then 2 else if bZ f n=0 then 9 else 0
def g7 (n:Nat)(f:Nat->Nat->FD):Int:=aU (bA (bZ f n-eK f n)) (bA (bZ f n+eK f n))
def LB:List PT:=[.one (.list [.int .i64])]
def T2:List FD->Bool
 | [.list _ _ _]=>true
 | _=>false
def LC:List FD->List FD
 | [.list _ na fa]=>[.int .i64 (if dJ na fa=0 then pK (bA (bZ fa na-eK fa na)) (g7 na fa) else 0),.int .i64 (if dJ na fa=0 then pK (bA (bZ fa na+eK fa na)) (g7 na fa) else 0),.int .i64 (dJ na fa)]
 | _=>[]
def T3 (_na:Nat)(_fa:Nat->Nat->FD):Nat->bT:=aW (fun _=>[])
theorem VT:cT (mkR sm8 gs2) Try.prog η0 19 (FI.of Try.f19 true) LB (.tup [.agg [.int .i64,.int .i64],.one (.int .i64)]) T2 LC:=by
 refine aL RW cA Try.fok19 (fun fds=>match fds with | [.list _ na fa]=>T3 na fa | _=>aW fun _=>[]) ?_
 intro fds hf hc;obtain ⟨na,fa,ds0,rfl,ga,hf1⟩:=hf.list;obtain rfl:=hf1.nil
 have hc:(true)=true:=hc
 have hvc:(vcF sm8 gs2 (FI.of Try.f19 true) LB (.tup [.agg [.int .i64,.int .i64],.one (.int .i64)]) (T3 na fa) noR [.list [.int .i64] na fa] (LC [.list [.int .i64] na fa]))=
  (true=true/\(decide (ofNat na=(0:Int))=true->((i64=i64/\(if dJ na fa=(0:Int) then pK (bA (bZ fa na-eK fa na)) (g7 na fa) else (0:Int))=(0:Int))/\(i64=i64/\(if dJ na fa=(0:Int) then pK (bA (bZ fa na+eK fa na)) (g7 na fa) else (0:Int))=(0:Int))/\True)/\(i64=i64/\dJ na fa=(7:Int))/\True)/\(decide (ofNat na=(0:Int))=false->(true=true->(dK (fun (i:Nat)=>bB (500000000:Int) (FD.i (fa i (0:Nat)))) na (0:Nat)=true->((i64=i64/\(if dJ na fa=(0:Int) then pK (bA (bZ fa na-eK fa na)) (g7 na fa) else (0:Int))=(0:Int))/\(i64=i64/\(if dJ na fa=(0:Int) then pK (bA (bZ fa na+eK fa na)) (g7 na fa) else (0:Int))=(0:Int))/\True)/\(i64=i64/\dJ na fa=(2:Int))/\True)/\(dK (fun (i:Nat)=>bB (500000000:Int) (FD.i (fa i (0:Nat)))) na (0:Nat)=false->(O3 [list [int i64] na fa]=true->(tB [list [int i64] na fa]=true->(decide (bZ fa na=(0:Int))=true->((i64=i64/\(if dJ na fa=(0:Int) then pK (bA (bZ fa na-eK fa na)) (g7 na fa) else (0:Int))=(0:Int))/\(i64=i64/\(if dJ na fa=(0:Int) then pK (bA (bZ fa na+eK fa na)) (g7 na fa) else (0:Int))=(0:Int))/\True)/\(i64=i64/\dJ na fa=(9:Int))/\True)/\(decide (bZ fa na=(0:Int))=false->(true=true->((! (decide (aU (wrap i64 (bZ fa na-eK fa na)) (wrap i64 (bZ fa na+eK fa na))=(0:Int))))=true->((! (decide (aU (wrap i64 (bZ fa na-eK fa na)) (wrap i64 (bZ fa na+eK fa na))=(0:Int))))=true->((i64=i64/\(if dJ na fa=(0:Int) then pK (bA (bZ fa na-eK fa na)) (g7 na fa) else (0:Int))=wrap i64 (Int.tdiv (wrap i64 (bZ fa na-eK fa na)) (aU (wrap i64 (bZ fa na-eK fa na)) (wrap i64 (bZ fa na+eK fa na)))))/\(i64=i64/\(if dJ na fa=(0:Int) then pK (bA (bZ fa na+eK fa na)) (g7 na fa) else (0:Int))=wrap i64 (Int.tdiv (wrap i64 (bZ fa na+eK fa na)) (aU (wrap i64 (bZ fa na-eK fa na)) (wrap i64 (bZ fa na+eK fa na)))))/\True)/\(i64=i64/\dJ na fa=(0:Int))/\True)/\((! (decide (aU (wrap i64 (bZ fa na-eK fa na)) (wrap i64 (bZ fa na+eK fa na))=(0:Int))))=false->False))/\((! (decide (aU (wrap i64 (bZ fa na-eK fa na)) (wrap i64 (bZ fa na+eK fa na))=(0:Int))))=false->False))/\(true=false->False)))/\(tB [list [int i64] na fa]=false->False))/\(O3 [list [int i64] na fa]=false->False)))/\(true=false->False))):=by kernel_rfl
 refine hvc.mpr ?_;clear hvc
 have hl:=ga.len
 have hl':maxLen=9223372036854775807:=rfl
 by_cases h1:na=0
 ·simp [h1,dJ]
 ·rcases Bool.eq_false_or_eq_true (dK (fun i=>bB 500000000 (fa i 0).i) na 0) with h2 | h2
  ·simp [h1,h2,dJ]
  ·have hb:=RV (show 1<=na by omega) (T1 h2)
   have c1:O3 [.list [.int .i64] na fa]=true:=Nat.ble_eq_true_of_le (by omega)
   have c2:tB [.list [.int .i64] na fa]=true:=Nat.ble_eq_true_of_le (by omega)
   by_cases h3:bZ fa na=0
   ·simp [h1,h2,h3,c1,c2,dJ]
   ·have hg:aU (IntKind.i64.wrap (bZ fa na-eK fa na)) (IntKind.i64.wrap (bZ fa na+eK fa na))≠0:=by
     rw [aO (by omega) (by omega),aO (by omega) (by omega)]
     exact aaZ (by omega) (by omega)
    have hg':g7 na fa≠0:=hg
    have he:dJ na fa=0:=by simp [dJ,h1,h2,h3]
    simp [h1,h2,h3,c1,c2,he,hg,pK,g7,bA]
end
end Go.Ex
