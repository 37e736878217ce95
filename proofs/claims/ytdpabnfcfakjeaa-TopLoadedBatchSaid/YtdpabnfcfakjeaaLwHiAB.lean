/-
 Contracts: how a history is followed.
-/
import Derived.Test.YtdpabnfcfakjeaaLwHiZ
import Derived.Test.YtdpabnfcfakjeaaLwLdBC
namespace Go.Ex
open Go Go.Proofs Go.RowKit
open Go.IntKind (i64 wrap)
open Int (ofNat toNat)
open List (length)
open Prod (fst snd)
open Nat (beq)
open Go.Ex.Sh (int str)
open Go.Ex.FD (list)
noncomputable section
set_option maxRecDepth 1000000
abbrev PSt:=List UInt8 × Bool × Int
def iY (f:Nat->Nat->FD)(n:Nat)(s:PSt):PSt:=if (f n 0).i=2 then ([],false,s.2.2+1) else ((f n 2).s,decide ((f n 0).i=1),s.2.2)
def stF (f:Nat->Nat->FD):Nat->List UInt8->Option PSt
 | 0,_=>none
 | n+1,p=>if aA (f n 1).s p=true then some (iY f n ((stF f n p).getD ([],false,0))) else stF f n p
def adb (s:PSt):List FD:=[.str s.1,.bool s.2.1,.int .i64 s.2.2]
def stM (f:Nat->Nat->FD)(n:Nat)(p:List UInt8):Option (List FD):=(stF f n p).map adb
def aS (f:Nat->Nat->FD):Nat->List (List UInt8)
 | 0=>[]
 | n+1=>if (f n 0).i=2 then (aS f n).filter (fun s => !aA s (f n 1).s) else aS f n++[(f n 1).s]
def evS (f:Nat->Nat->FD)(n:Nat):PSt:=(stF f n (f n 1).s).getD ([],false,0)
def evE (f:Nat->Nat->FD)(n:Nat):Int:=
 if 0<=(f n 0).i/\(f n 0).i<=2 then (if aM (f n 1).s=true then
  (if (f n 0).i=2 then (if aA (f n 2).s []=true then (if aA (evS f n).1 []=true then 22 else if (evS f n).2.2=3 then 16 else 0) else 13)
   else (if aM (f n 2).s=true then (if aA (evS f n).1 []=true then 0 else 22) else 3)) else 3) else 11
def bF (n:Nat)(f:Nat->Nat->FD):Int:=if n<=100 then aX (evE f) n else 8
def lU (n:Nat)(f:Nat->Nat->FD):Int:=if n<=100 then uW (evE f) n else 0
def Y2 (f:Nat->Nat->FD)(i:Nat):Bool:=Nat.ble (f i 1).s.length 20&&Nat.ble (f i 2).s.length 20
theorem bW {l m:List UInt8}:aA l m=true↔l=m:=by rw [bH];simp
theorem m8 {l m:List UInt8}:aA l m=false↔l≠m:=by
 rw [←Bool.not_eq_true,bW]
def sR (n:Nat)(f:Nat->Nat->FD):Bool:=Nat.ble n 102&&aH (Y2 f) n
theorem zN {n:Nat} {f:Nat->Nat->FD} (h:sR n f=true):n<=102 /\ ∀ i,i<n->(f i 1).s.length<=20/\(f i 2).s.length<=20:=by
 simp only [sR,Bool.and_eq_true,Nat.ble_eq] at h;refine ⟨h.1,fun i hi => ?_⟩
 have:=bG h.2 i hi
 simp only [Y2,Bool.and_eq_true,Nat.ble_eq] at this;exact this
theorem uT (f:Nat->Nat->FD) : ∀ n p,0<=((stF f n p).getD ([],false,0)).2.2/\((stF f n p).getD ([],false,0)).2.2<=n
 | 0,p=>by simp [stF]
 | n+1,p=>by
  have:=uT f n p
  simp only [stF];split
  ·simp only [Option.getD_some,iY];split<;>simp only []<;>omega
  ·omega
theorem o8 (f:Nat->Nat->FD)(n:Nat)(p:List UInt8)(k:Nat):mgt (stM f n p) [FD.str [],FD.bool false,FD.int .i64 0] k=bD (adb ((stF f n p).getD ([],false,0))) k:=by
 unfold stM mgt
 cases stF f n p with
 | none=>rfl
 | some s=>rfl
theorem FT (f:Nat->Nat->FD)(n:Nat)(p:List UInt8):stM f (n+1) p=if p=(f n 1).s then some (adb (iY f n (evS f n))) else stM f n p:=by
 unfold stM;simp only [stF]
 by_cases h:p=(f n 1).s
 ·subst h;rw [if_pos rfl,if_pos (bW.2 rfl)];rfl
 ·rw [if_neg h,if_neg (fun e=>h (bW.1 e).symm)]
theorem aa0 {f:Nat->Nat->FD} {n y:Nat} {E:Int} (hn:n<=100) (h:aX (evE f) y=0) (hy:y<n) (he:evE f y=E) (hE:E≠0):bF n f=E/\lU n f=y:=by
 obtain ⟨h1,h2⟩:=n6 h (by rw [he];exact hE) hy
 rw [bF,lU,if_pos hn,if_pos hn,h1,h2];exact ⟨he,rfl⟩
theorem adc {f:Nat->Nat->FD} {n:Nat} (hn:n<=100) (h:aX (evE f) n=0):bF n f=0/\lU n f=0:=by
 rw [bF,lU,if_pos hn,if_pos hn];exact ⟨h,sI h⟩
theorem mT (f:Nat->Nat->FD) : ∀ n,(aS f n).length<=n
 | 0=>Nat.le_refl _
 | n+1=>by
  have:=mT f n
  simp only [aS];split
  ·exact Nat.le_trans (List.length_filter_le ..) (by omega)
  ·simp;omega
theorem o9 {s:List UInt8} (h:s.length<=20):fN [FD.str s]=true:=by
 have:Nat.ble s.length 1000=true:=Nat.ble_eq▸(by omega)
 exact this
theorem O7 (f:Nat->Nat->FD)(n:Nat):mgt (stM f n (f n 1).s) [FD.str [],FD.bool false,FD.int .i64 0] 0 = .str (evS f n).1:=o8 f n _ 0
theorem Y3 (f:Nat->Nat->FD)(n:Nat):mgt (stM f n (f n 1).s) [FD.str [],FD.bool false,FD.int .i64 0] 2 = .int .i64 (evS f n).2.2:=o8 f n _ 2
theorem Y4 {f:Nat->Nat->FD} {n:Nat} (h:0<=(f n 0).i->2<(f n 0).i):evE f n=11:=by
 rw [evE,if_neg (fun h'=>by have:=h h'.1;omega)]
theorem aby {f:Nat->Nat->FD} {n:Nat} (h:0<=(f n 0).i) (h':(f n 0).i<=2) (hb:aM (f n 1).s=false):evE f n=3:=by
 rw [evE,if_pos ⟨h,h'⟩,if_neg (by rw [hb];decide)]
theorem kX {f:Nat->Nat->FD} {n:Nat} (h:(f n 0).i=2) (hb:aM (f n 1).s=true):evE f n=if aA (f n 2).s []=true then (if aA (evS f n).1 []=true then 22 else if (evS f n).2.2=3 then 16 else 0) else 13:=by
 rw [evE,if_pos ⟨by omega,by omega⟩,if_pos hb,if_pos h]
theorem rA {f:Nat->Nat->FD} {n:Nat} (h:0<=(f n 0).i) (h':(f n 0).i<=2) (h2 : ¬(f n 0).i=2) (hb:aM (f n 1).s=true):evE f n=if aM (f n 2).s=true then (if aA (evS f n).1 []=true then 0 else 22) else 3:=by
 rw [evE,if_pos ⟨h,h'⟩,if_pos hb,if_neg h2]
theorem Y5 (l:List (List UInt8)) (p:List UInt8):uU l.length (aC l) p=l.filter fun s => !aA s p:=by
 unfold uU
 congr 1
 unfold pD aC;refine List.ext_getElem (by simp) fun i h1 h2 => ?_
 simp only [List.length_map,List.length_range] at h1;simp [FD.s,h1]
def gsD:G2:=G2.setE gs3 158 adi
theorem RZ:cZ gsD:=cZ.setE dU (by kernel_rfl) aa6
def LD:List PT:=[.one (.list [.int .i64,.str,.str])]
def jS:List FD->Bool
 | [.list _ nh fh]=>sR nh fh
 | _=>false
def LE:List FD->List (Bool × dV)
 | [.list _ nh fh]=>[(beq nh 0,⟨[(2,.one (.ptr (some (2,0)))),(3,.one (.int .i64 (.tm 0))),(4,.one (.int .i64 (.tm 0)))],[(1,.map [.str,.bool,.int .i64] true (stM fh 0)),(2,.cells 196 2 [.map (some 1),.slice none 0 (.known 0)])],3,.tup [(false,[.ptr (some (2,0))]),(false,[.int .i64 (.tm 0)]),(false,[.int .i64 (.tm 0)])]⟩),(decide (bF nh fh=0),⟨[(2,.one (.ptr (some (2,0)))),(3,.one (.int .i64 (.tm 0))),(4,.one (.int .i64 (.tm 0)))],[(1,.map [.str,.bool,.int .i64] true (stM fh nh)),(2,.cells 196 2 [.map (some 1),.own 3 (aS fh nh).length]),(3,.row 9 [.str] (aS fh nh).length (aC (aS fh nh)))],4,.tup [(false,[.ptr (some (2,0))]),(false,[.int .i64 (.tm 0)]),(false,[.int .i64 (.tm 0)])]⟩)]
 | _=>[]
def LF:List FD->dV
 | [.list _ nh fh]=>⟨[(2,.one (.ptr none)),(3,.one (.int .i64 (.tm (lU nh fh)))),(4,.one (.int .i64 (.tm (bF nh fh))))],[],1,.tup [(false,[.ptr none]),(false,[.int .i64 (.tm (lU nh fh))]),(false,[.int .i64 (.tm (bF nh fh))])]⟩
 | _=>⟨[],[],1,.undef⟩
def T5 (nh:Nat)(fh:Nat->Nat->FD):Nat->bT:=fun i=>match i with | 5=>⟨Nat,fun _=>[{ι:=Nat,G:=fun x=>x=0,μ:=fun x=>nh-x,tl:=fun x=>[(0,.one (.fz (.root 0 0) (list [int i64,str,str] nh fh))),(2,.one (.ptr none)),(3,.one (.int i64 (.lit (0:Int)))),(4,.one (.int i64 (.lit (0:Int)))),(5,.one (.ptr (some (2,0)))),(12,.one (.ptr (some (2,0)))),(13,.one (.fz (.root 0 0) (list [int i64,str,str] nh fh))),(14,.one (.int i64 (.tm (ofNat nh)))),(15,.one (.int i64 (.tm (ofNat x))))],bl:=fun x=>[(1,.map [str,Sh.bool,int i64] true (fun (x:List UInt8)=>none)),(2,.cells 196 2 [.map (some 1),.slice none 0 (.known 0)])],nx:=(1:Nat)+(1:Nat)+(1:Nat)},{ι:=Nat,G:=fun x=>(1<=x/\x<=nh)/\aX (evE fh) x=0,μ:=fun x=>nh-x,tl:=fun x=>[(0,.one (.fz (.root 0 0) (list [int i64,str,str] nh fh))),(2,.one (.ptr none)),(3,.one (.int i64 (.lit (0:Int)))),(4,.one (.int i64 (.lit (0:Int)))),(5,.one (.ptr (some (2,0)))),(12,.one (.ptr (some (2,0)))),(13,.one (.fz (.root 0 0) (list [int i64,str,str] nh fh))),(14,.one (.int i64 (.tm (ofNat nh)))),(15,.one (.int i64 (.tm (ofNat x))))],bl:=fun x=>[(1,.map [.str,.bool,.int .i64] true (stM fh x)),(2,.cells 196 2 [.map (some 1),.own 3 (aS fh x).length]),(3,.row 9 [.str] (aS fh x).length (aC (aS fh x)))],nx:=4}]⟩ | _=>⟨Nat,fun _=>[]⟩
abbrev rB (nh:Nat)(fh:Nat->Nat->FD)(y1:Nat):Prop:=(beq nh (0:Nat)=true->(true=true/\False/\(i64=i64/\(0:Int)=ofNat y1)/\(i64=i64/\(0:Int)=(22:Int))/\True)/\False/\False/\True)/\(beq nh (0:Nat)=false->(decide (bF nh fh=(0:Int))=true->(true=true/\False/\(i64=i64/\(0:Int)=ofNat y1)/\(i64=i64/\(0:Int)=(22:Int))/\True)/\False/\False/\False/\True)/\(decide (bF nh fh=(0:Int))=false->(true=true/\True/\(i64=i64/\lU nh fh=ofNat y1)/\(i64=i64/\bF nh fh=(22:Int))/\True)/\True))
abbrev rC (nh:Nat)(fh:Nat->Nat->FD)(y1:Nat):Prop:=(beq nh (0:Nat)=true->(true=true/\False/\(i64=i64/\(0:Int)=ofNat y1)/\(i64=i64/\(0:Int)=(3:Int))/\True)/\False/\False/\True)/\(beq nh (0:Nat)=false->(decide (bF nh fh=(0:Int))=true->(true=true/\False/\(i64=i64/\(0:Int)=ofNat y1)/\(i64=i64/\(0:Int)=(3:Int))/\True)/\False/\False/\False/\True)/\(decide (bF nh fh=(0:Int))=false->(true=true/\True/\(i64=i64/\lU nh fh=ofNat y1)/\(i64=i64/\bF nh fh=(3:Int))/\True)/\True))
abbrev d6 (nh:Nat)(fh:Nat->Nat->FD):Prop:=Ref.root 0 0=Ref.root 0 0/\list [int i64,str,str] nh fh=list [int i64,str,str] nh fh/\true=true
abbrev FU (nh:Nat)(fh:Nat->Nat->FD)(y1:Nat):Prop:=(decide ((0:Int)<=FD.i (fh (toNat (ofNat y1)) (0:Nat)))&&decide (FD.i (fh (toNat (ofNat y1)) (0:Nat))<=(2:Int)))=false->(beq nh (0:Nat)=true->(true=true/\False/\(i64=i64/\(0:Int)=ofNat y1)/\(i64=i64/\(0:Int)=(11:Int))/\True)/\False/\False/\True)/\(beq nh (0:Nat)=false->(decide (bF nh fh=(0:Int))=true->(true=true/\False/\(i64=i64/\(0:Int)=ofNat y1)/\(i64=i64/\(0:Int)=(11:Int))/\True)/\False/\False/\False/\True)/\(decide (bF nh fh=(0:Int))=false->(true=true/\True/\(i64=i64/\lU nh fh=ofNat y1)/\(i64=i64/\bF nh fh=(11:Int))/\True)/\True))
abbrev FV (nh:Nat)(fh:Nat->Nat->FD)(y1:Nat):Prop:=(! (aA (FD.s (fh (toNat (ofNat y1)) ((0:Nat)+(1:Nat)+(1:Nat)))) (Array.toList (ByteArray.data {data:= #[]}))))=true->(beq nh (0:Nat)=true->(true=true/\False/\(i64=i64/\(0:Int)=ofNat y1)/\(i64=i64/\(0:Int)=(13:Int))/\True)/\False/\False/\True)/\(beq nh (0:Nat)=false->(decide (bF nh fh=(0:Int))=true->(true=true/\False/\(i64=i64/\(0:Int)=ofNat y1)/\(i64=i64/\(0:Int)=(13:Int))/\True)/\False/\False/\False/\True)/\(decide (bF nh fh=(0:Int))=false->(true=true/\True/\(i64=i64/\lU nh fh=ofNat y1)/\(i64=i64/\bF nh fh=(13:Int))/\True)/\True))
abbrev FX (nh:Nat)(fh:Nat->Nat->FD)(y1:Nat):Prop:=(beq nh (0:Nat)=true->(true=true/\False/\(i64=i64/\(0:Int)=ofNat y1)/\(i64=i64/\(0:Int)=(16:Int))/\True)/\False/\False/\True)/\(beq nh (0:Nat)=false->(decide (bF nh fh=(0:Int))=true->(true=true/\False/\(i64=i64/\(0:Int)=ofNat y1)/\(i64=i64/\(0:Int)=(16:Int))/\True)/\False/\False/\False/\True)/\(decide (bF nh fh=(0:Int))=false->(true=true/\True/\(i64=i64/\lU nh fh=ofNat y1)/\(i64=i64/\bF nh fh=(16:Int))/\True)/\True))
abbrev FY (nh:Nat)(fh:Nat->Nat->FD)(y1:Nat):Prop:=true=true/\d6 nh fh/\True/\(i64=i64/\(0:Int)=(0:Int))/\(i64=i64/\(0:Int)=(0:Int))/\((2,2)∈([(1,1),(2,2),(0,0)]:List (Nat×Nat))/\0=0)/\((2,2)∈([(1,1),(2,2),(0,0)]:List (Nat×Nat))/\0=0)/\d6 nh fh/\(i64=i64/\ofNat nh=ofNat nh)/\(i64=i64/\ofNat y1=(0:Int))/\True
abbrev wZ  : Prop:=((true=true)/\((((2,2)∈([(1,1),(2,2),(0,0)]:List (Nat × Nat)))/\((0)=(0)))/\((((i64)=(i64))/\(((0:Int))=((0:Int))))/\((((i64)=(i64))/\(((0:Int))=((0:Int))))/\True))))
theorem VV:XI (mkR gO gsD) Try.prog η0 132 (FI.of Try.f132 false) LD jS LE LF:=by
 refine XL b8 RZ Try.fok132 (fun fds=>match fds with | [.list _ nh fh]=>T5 nh fh | _=>aW fun _=>[]) ?_
 intro fds hf hc;obtain ⟨nh,fh,ds0,rfl,gh,hf1⟩:=hf.list;obtain rfl:=hf1.nil
 have hc:(sR nh fh)=true:=hc
 have hvc:(vcN gO gsD (FI.of Try.f132 false) LD (T5 nh fh) [.list [.int .i64,.str,.str] nh fh] (LE [.list [.int .i64,.str,.str] nh fh]) (LF [.list [.int .i64,.str,.str] nh fh]))=
  (true=true/\(decide ((100:Int)<ofNat nh)=true->(beq nh (0:Nat)=true->(true=true/\False/\(i64=i64/\(0:Int)=(0:Int))/\(i64=i64/\(0:Int)=(8:Int))/\True)/\False/\False/\True)/\(beq nh (0:Nat)=false->(decide (bF nh fh=(0:Int))=true->(true=true/\False/\(i64=i64/\(0:Int)=(0:Int))/\(i64=i64/\(0:Int)=(8:Int))/\True)/\False/\False/\False/\True)/\(decide (bF nh fh=(0:Int))=false->(true=true/\True/\(i64=i64/\lU nh fh=(0:Int))/\(i64=i64/\bF nh fh=(8:Int))/\True)/\True)))/\(decide ((100:Int)<ofNat nh)=false-> ∃y0:Nat,((∃y1:Nat,(y1=0/\True)/\FY nh fh y1/\([str,Sh.bool,int i64]=[str,Sh.bool,int i64]/\true=true/\ ∀y2:List UInt8,(none:Option (List FD))=none)/\((196:TypeId)=(196:Nat)/\2=2/\(1,1)∈([(1,1),(2,2),(0,0)]:List (Nat×Nat))/\(0=0/\0=0)/\True)/\True)∨ ∃y1:Nat,((((1:Nat)<=y1/\y1<=nh)/\aX (evE fh) y1=(0:Int))/\True)/\FY nh fh y1/\([str,Sh.bool,int i64]=[str,Sh.bool,int i64]/\true=true/\ ∀y2:List UInt8,(stM fh y1 y2:Option (List FD))=none)/\((196:TypeId)=(196:Nat)/\2=2/\(1,1)∈([(1,1),(2,2),(0,0)]:List (Nat×Nat))/\False/\True)/\False/\True)/\(∀y1:Nat,y1=0->(decide (ofNat y1<ofNat nh)=true->((decide ((0:Int)<=ofNat y1)&&decide (ofNat y1<(↑nh:Int)))=true->(true=true->((decide ((0:Int)<=FD.i (fh (toNat (ofNat y1)) (0:Nat)))&&decide (FD.i (fh (toNat (ofNat y1)) (0:Nat))<=(2:Int)))=true->(fN [FD.str (FD.s (fh (toNat (ofNat y1)) ((0:Nat)+(1:Nat))))]=true->(aM (FD.s (fh (toNat (ofNat y1)) ((0:Nat)+(1:Nat))))=true->(decide (FD.i (fh (toNat (ofNat y1)) (0:Nat))=(2:Int))=true->FV nh fh y1/\((! (aA (FD.s (fh (toNat (ofNat y1)) ((0:Nat)+(1:Nat)+(1:Nat)))) (Array.toList (ByteArray.data {data:= #[]}))))=false->(true=true->rB nh fh y1)/\(true=false->(false=true->FX nh fh y1)/\(false=false->False))))/\(decide (FD.i (fh (toNat (ofNat y1)) (0:Nat))=(2:Int))=false->(fN [FD.str (FD.s (fh (toNat (ofNat y1)) ((0:Nat)+(1:Nat)+(1:Nat))))]=true->(aM (FD.s (fh (toNat (ofNat y1)) ((0:Nat)+(1:Nat)+(1:Nat))))=true->(false=true->rB nh fh y1)/\(false=false->(true=true->(∃y2:Nat,(y2=0/\nh-y2<nh-y1)/\(true=true/\d6 nh fh/\True/\(i64=i64/\(0:Int)=(0:Int))/\(i64=i64/\(0:Int)=(0:Int))/\((2,2)∈([(1,1),(2,2),(0,0)]:List (Nat×Nat))/\0=0)/\((2,2)∈([(1,1),(2,2),(0,0)]:List (Nat×Nat))/\0=0)/\d6 nh fh/\(i64=i64/\ofNat nh=ofNat nh)/\(i64=i64/\ofNat y2=wrap i64 (ofNat y1+(1:Int)))/\True)/\([str,Sh.bool,int i64]=[str,Sh.bool,int i64]/\true=true/\ ∀y3:List UInt8,(none:Option (List FD))=if y3=FD.s (fh (toNat (ofNat y1)) ((0:Nat)+(1:Nat))) then some [FD.str (FD.s (fh (toNat (ofNat y1)) ((0:Nat)+(1:Nat)+(1:Nat)))),FD.bool (decide (FD.i (fh (toNat (ofNat y1)) (0:Nat))=(1:Int))),FD.int i64 (0:Int)] else none)/\((196:TypeId)=(196:TypeId)/\2=2/\(1,1)∈([(1,1),(2,2),(0,0)]:List (Nat×Nat))/\False/\True)/\True)∨ ∃y2:Nat,((((1:Nat)<=y2/\y2<=nh)/\aX (evE fh) y2=(0:Int))/\nh-y2<nh-y1)/\(true=true/\d6 nh fh/\True/\(i64=i64/\(0:Int)=(0:Int))/\(i64=i64/\(0:Int)=(0:Int))/\((2,2)∈([(3,30),(1,1),(2,2),(0,0)]:List (Nat×Nat))/\0=0)/\((2,2)∈([(3,30),(1,1),(2,2),(0,0)]:List (Nat×Nat))/\0=0)/\d6 nh fh/\(i64=i64/\ofNat nh=ofNat nh)/\(i64=i64/\ofNat y2=wrap i64 (ofNat y1+(1:Int)))/\True)/\([str,Sh.bool,int i64]=[str,Sh.bool,int i64]/\true=true/\ ∀y3:List UInt8,(stM fh y2 y3:Option (List FD))=if y3=FD.s (fh (toNat (ofNat y1)) ((0:Nat)+(1:Nat))) then some [FD.str (FD.s (fh (toNat (ofNat y1)) ((0:Nat)+(1:Nat)+(1:Nat)))),FD.bool (decide (FD.i (fh (toNat (ofNat y1)) (0:Nat))=(1:Int))),FD.int i64 (0:Int)] else none)/\((196:TypeId)=(196:TypeId)/\2=2/\(1,1)∈([(3,30),(1,1),(2,2),(0,0)]:List (Nat×Nat))/\((3,30)∈([(3,30),(1,1),(2,2),(0,0)]:List (Nat×Nat))/\length (aS fh y2)=1)/\True)/\((9:TypeId)=(9:TypeId)/\[str]=[str]/\length (aS fh y2)=1/\ ∀y3:Nat,y3<length (aS fh y2)-> ∀y4:Nat,y4<length [str]->aC (aS fh y2) y3 y4=bD [FD.str (FD.s (fh (toNat (ofNat y1)) ((0:Nat)+(1:Nat))))] y4)/\True)/\(true=false->False)))/\(aM (FD.s (fh (toNat (ofNat y1)) ((0:Nat)+(1:Nat)+(1:Nat))))=false->rC nh fh y1))/\(fN [FD.str (FD.s (fh (toNat (ofNat y1)) ((0:Nat)+(1:Nat)+(1:Nat))))]=false->False)))/\(aM (FD.s (fh (toNat (ofNat y1)) ((0:Nat)+(1:Nat))))=false->rC nh fh y1))/\(fN [FD.str (FD.s (fh (toNat (ofNat y1)) ((0:Nat)+(1:Nat))))]=false->False))/\FU nh fh y1)/\(true=false->False))/\((decide ((0:Int)<=ofNat y1)&&decide (ofNat y1<(↑nh:Int)))=false->False))/\(decide (ofNat y1<ofNat nh)=false->(beq nh (0:Nat)=true->wZ/\([str,Sh.bool,int i64]=[str,Sh.bool,int i64]/\true=true/\ ∀y2:List UInt8,(stM fh (0:Nat) y2:Option (List FD))=none)/\((196:TypeId)=(196:TypeId)/\2=2/\(1,1)∈([(1,1),(2,2),(0,0)]:List (Nat×Nat))/\(0=0/\0=0)/\True)/\True)/\(beq nh (0:Nat)=false->(decide (bF nh fh=(0:Int))=true->wZ/\([str,Sh.bool,int i64]=[str,Sh.bool,int i64]/\true=true/\ ∀y2:List UInt8,(stM fh nh y2:Option (List FD))=none)/\((196:TypeId)=(196:TypeId)/\2=2/\(1,1)∈([(1,1),(2,2),(0,0)]:List (Nat×Nat))/\False/\True)/\False/\True)/\(decide (bF nh fh=(0:Int))=false->(true=true/\False/\(i64=i64/\lU nh fh=(0:Int))/\(i64=i64/\bF nh fh=(0:Int))/\True)/\True))))/\ ∀y1:Nat,((1:Nat)<=y1/\y1<=nh)/\aX (evE fh) y1=(0:Int)->(decide (ofNat y1<ofNat nh)=true->((decide ((0:Int)<=ofNat y1)&&decide (ofNat y1<(↑nh:Int)))=true->(true=true->((decide ((0:Int)<=FD.i (fh (toNat (ofNat y1)) (0:Nat)))&&decide (FD.i (fh (toNat (ofNat y1)) (0:Nat))<=(2:Int)))=true->(fN [FD.str (FD.s (fh (toNat (ofNat y1)) ((0:Nat)+(1:Nat))))]=true->(aM (FD.s (fh (toNat (ofNat y1)) ((0:Nat)+(1:Nat))))=true->(decide (FD.i (fh (toNat (ofNat y1)) (0:Nat))=(2:Int))=true->FV nh fh y1/\((! (aA (FD.s (fh (toNat (ofNat y1)) ((0:Nat)+(1:Nat)+(1:Nat)))) (Array.toList (ByteArray.data {data:= #[]}))))=false->(aA (FD.s (mgt (stM fh y1 (FD.s (fh (toNat (ofNat y1)) ((0:Nat)+(1:Nat))))) [FD.str [],FD.bool false,FD.int i64 (0:Int)] (0:Nat))) (Array.toList (ByteArray.data {data:= #[]}))=true->rB nh fh y1)/\(aA (FD.s (mgt (stM fh y1 (FD.s (fh (toNat (ofNat y1)) ((0:Nat)+(1:Nat))))) [FD.str [],FD.bool false,FD.int i64 (0:Int)] (0:Nat))) (Array.toList (ByteArray.data {data:= #[]}))=false->(decide (FD.i (mgt (stM fh y1 (FD.s (fh (toNat (ofNat y1)) ((0:Nat)+(1:Nat))))) [FD.str [],FD.bool false,FD.int i64 (0:Int)] ((0:Nat)+(1:Nat)+(1:Nat)))=(3:Int))=true->FX nh fh y1)/\(decide (FD.i (mgt (stM fh y1 (FD.s (fh (toNat (ofNat y1)) ((0:Nat)+(1:Nat))))) [FD.str [],FD.bool false,FD.int i64 (0:Int)] ((0:Nat)+(1:Nat)+(1:Nat)))=(3:Int))=false->((beq (length (aS fh y1)) (length (aS fh y1))&&Nat.ble (1:Nat) (3:Nat))=true->(∃y2:Nat,(y2=0/\nh-y2<nh-y1)/\(true=true/\d6 nh fh/\True/\(i64=i64/\(0:Int)=(0:Int))/\(i64=i64/\(0:Int)=(0:Int))/\((2,2)∈([(1,1),(2,2),(0,0)]:List (Nat×Nat))/\0=0)/\((2,2)∈([(1,1),(2,2),(0,0)]:List (Nat×Nat))/\0=0)/\d6 nh fh/\(i64=i64/\ofNat nh=ofNat nh)/\(i64=i64/\ofNat y2=wrap i64 (ofNat y1+(1:Int)))/\True)/\([str,Sh.bool,int i64]=[str,Sh.bool,int i64]/\true=true/\ ∀y3:List UInt8,(none:Option (List FD))=if y3=FD.s (fh (toNat (ofNat y1)) ((0:Nat)+(1:Nat))) then some [FD.str [],FD.bool false,FD.int i64 (wrap i64 (FD.i (mgt (stM fh y1 (FD.s (fh (toNat (ofNat y1)) ((0:Nat)+(1:Nat))))) [FD.str [],FD.bool false,FD.int i64 (0:Int)] ((0:Nat)+(1:Nat)+(1:Nat)))+(1:Int)))] else stM fh y1 y3)/\((196:TypeId)=(196:TypeId)/\2=2/\(1,1)∈([(1,1),(2,2),(0,0)]:List (Nat×Nat))/\False/\True)/\True)∨ ∃y2:Nat,((((1:Nat)<=y2/\y2<=nh)/\aX (evE fh) y2=(0:Int))/\nh-y2<nh-y1)/\(true=true/\d6 nh fh/\True/\(i64=i64/\(0:Int)=(0:Int))/\(i64=i64/\(0:Int)=(0:Int))/\((2,2)∈([(3,3),(1,1),(2,2),(0,0)]:List (Nat×Nat))/\0=0)/\((2,2)∈([(3,3),(1,1),(2,2),(0,0)]:List (Nat×Nat))/\0=0)/\d6 nh fh/\(i64=i64/\ofNat nh=ofNat nh)/\(i64=i64/\ofNat y2=wrap i64 (ofNat y1+(1:Int)))/\True)/\([str,Sh.bool,int i64]=[str,Sh.bool,int i64]/\true=true/\ ∀y3:List UInt8,(stM fh y2 y3:Option (List FD))=if y3=FD.s (fh (toNat (ofNat y1)) ((0:Nat)+(1:Nat))) then some [FD.str [],FD.bool false,FD.int i64 (wrap i64 (FD.i (mgt (stM fh y1 (FD.s (fh (toNat (ofNat y1)) ((0:Nat)+(1:Nat))))) [FD.str [],FD.bool false,FD.int i64 (0:Int)] ((0:Nat)+(1:Nat)+(1:Nat)))+(1:Int)))] else stM fh y1 y3)/\((196:TypeId)=(196:TypeId)/\2=2/\(1,1)∈([(3,3),(1,1),(2,2),(0,0)]:List (Nat×Nat))/\((3,3)∈([(3,3),(1,1),(2,2),(0,0)]:List (Nat×Nat))/\length (aS fh y2)=length (uU (length (aS fh y1)) (aC (aS fh y1)) (FD.s (fh (toNat (ofNat y1)) ((0:Nat)+(1:Nat))))))/\True)/\((9:TypeId)=(9:TypeId)/\[str]=[str]/\length (aS fh y2)=length (uU (length (aS fh y1)) (aC (aS fh y1)) (FD.s (fh (toNat (ofNat y1)) ((0:Nat)+(1:Nat)))))/\ ∀y3:Nat,y3<length (aS fh y2)-> ∀y4:Nat,y4<length [str]->aC (aS fh y2) y3 y4=aC (uU (length (aS fh y1)) (aC (aS fh y1)) (FD.s (fh (toNat (ofNat y1)) ((0:Nat)+(1:Nat))))) y3 y4)/\True)/\((beq (length (aS fh y1)) (length (aS fh y1))&&Nat.ble (1:Nat) (3:Nat))=false->False)))))/\(decide (FD.i (fh (toNat (ofNat y1)) (0:Nat))=(2:Int))=false->(fN [FD.str (FD.s (fh (toNat (ofNat y1)) ((0:Nat)+(1:Nat)+(1:Nat))))]=true->(aM (FD.s (fh (toNat (ofNat y1)) ((0:Nat)+(1:Nat)+(1:Nat))))=true->((! (aA (FD.s (mgt (stM fh y1 (FD.s (fh (toNat (ofNat y1)) ((0:Nat)+(1:Nat))))) [FD.str [],FD.bool false,FD.int i64 (0:Int)] (0:Nat))) (Array.toList (ByteArray.data {data:= #[]}))))=true->rB nh fh y1)/\((! (aA (FD.s (mgt (stM fh y1 (FD.s (fh (toNat (ofNat y1)) ((0:Nat)+(1:Nat))))) [FD.str [],FD.bool false,FD.int i64 (0:Int)] (0:Nat))) (Array.toList (ByteArray.data {data:= #[]}))))=false->((beq (length (aS fh y1)) (length (aS fh y1))&&(true&&Nat.ble (length (aS fh y1)+(1:Nat)) (1000000:Nat)))=true->(∃y2:Nat,(y2=0/\nh-y2<nh-y1)/\(true=true/\d6 nh fh/\True/\(i64=i64/\(0:Int)=(0:Int))/\(i64=i64/\(0:Int)=(0:Int))/\((2,2)∈([(1,1),(2,2),(0,0)]:List (Nat×Nat))/\0=0)/\((2,2)∈([(1,1),(2,2),(0,0)]:List (Nat×Nat))/\0=0)/\d6 nh fh/\(i64=i64/\ofNat nh=ofNat nh)/\(i64=i64/\ofNat y2=wrap i64 (ofNat y1+(1:Int)))/\True)/\([str,Sh.bool,int i64]=[str,Sh.bool,int i64]/\true=true/\ ∀y3:List UInt8,(none:Option (List FD))=if y3=FD.s (fh (toNat (ofNat y1)) ((0:Nat)+(1:Nat))) then some [FD.str (FD.s (fh (toNat (ofNat y1)) ((0:Nat)+(1:Nat)+(1:Nat)))),FD.bool (decide (FD.i (fh (toNat (ofNat y1)) (0:Nat))=(1:Int))),FD.int i64 (FD.i (mgt (stM fh y1 (FD.s (fh (toNat (ofNat y1)) ((0:Nat)+(1:Nat))))) [FD.str [],FD.bool false,FD.int i64 (0:Int)] ((0:Nat)+(1:Nat)+(1:Nat))))] else stM fh y1 y3)/\((196:TypeId)=(196:TypeId)/\2=2/\(1,1)∈([(1,1),(2,2),(0,0)]:List (Nat×Nat))/\False/\True)/\True)∨ ∃y2:Nat,((((1:Nat)<=y2/\y2<=nh)/\aX (evE fh) y2=(0:Int))/\nh-y2<nh-y1)/\(true=true/\d6 nh fh/\True/\(i64=i64/\(0:Int)=(0:Int))/\(i64=i64/\(0:Int)=(0:Int))/\((2,2)∈([(3,31),(1,1),(2,2),(0,0)]:List (Nat×Nat))/\0=0)/\((2,2)∈([(3,31),(1,1),(2,2),(0,0)]:List (Nat×Nat))/\0=0)/\d6 nh fh/\(i64=i64/\ofNat nh=ofNat nh)/\(i64=i64/\ofNat y2=wrap i64 (ofNat y1+(1:Int)))/\True)/\([str,Sh.bool,int i64]=[str,Sh.bool,int i64]/\true=true/\ ∀y3:List UInt8,(stM fh y2 y3:Option (List FD))=if y3=FD.s (fh (toNat (ofNat y1)) ((0:Nat)+(1:Nat))) then some [FD.str (FD.s (fh (toNat (ofNat y1)) ((0:Nat)+(1:Nat)+(1:Nat)))),FD.bool (decide (FD.i (fh (toNat (ofNat y1)) (0:Nat))=(1:Int))),FD.int i64 (FD.i (mgt (stM fh y1 (FD.s (fh (toNat (ofNat y1)) ((0:Nat)+(1:Nat))))) [FD.str [],FD.bool false,FD.int i64 (0:Int)] ((0:Nat)+(1:Nat)+(1:Nat))))] else stM fh y1 y3)/\((196:TypeId)=(196:TypeId)/\2=2/\(1,1)∈([(3,31),(1,1),(2,2),(0,0)]:List (Nat×Nat))/\((3,31)∈([(3,31),(1,1),(2,2),(0,0)]:List (Nat×Nat))/\length (aS fh y2)=length (aS fh y1)+(1:Nat))/\True)/\((9:TypeId)=(9:TypeId)/\[str]=[str]/\length (aS fh y2)=length (aS fh y1)+(1:Nat)/\ ∀y3:Nat,y3<length (aS fh y2)-> ∀y4:Nat,y4<length [str]->aC (aS fh y2) y3 y4=bif Nat.blt y3 (length (aS fh y1)) then aC (aS fh y1) y3 y4 else bD [FD.str (FD.s (fh (toNat (ofNat y1)) ((0:Nat)+(1:Nat))))] y4)/\True)/\((beq (length (aS fh y1)) (length (aS fh y1))&&(true&&Nat.ble (length (aS fh y1)+(1:Nat)) (1000000:Nat)))=false->False)))/\(aM (FD.s (fh (toNat (ofNat y1)) ((0:Nat)+(1:Nat)+(1:Nat))))=false->rC nh fh y1))/\(fN [FD.str (FD.s (fh (toNat (ofNat y1)) ((0:Nat)+(1:Nat)+(1:Nat))))]=false->False)))/\(aM (FD.s (fh (toNat (ofNat y1)) ((0:Nat)+(1:Nat))))=false->rC nh fh y1))/\(fN [FD.str (FD.s (fh (toNat (ofNat y1)) ((0:Nat)+(1:Nat))))]=false->False))/\FU nh fh y1)/\(true=false->False))/\((decide ((0:Int)<=ofNat y1)&&decide (ofNat y1<(↑nh:Int)))=false->False))/\(decide (ofNat y1<ofNat nh)=false->(beq nh (0:Nat)=true->wZ/\([str,Sh.bool,int i64]=[str,Sh.bool,int i64]/\true=true/\ ∀y2:List UInt8,(stM fh (0:Nat) y2:Option (List FD))=stM fh y1 y2)/\((196:TypeId)=(196:TypeId)/\2=2/\(1,1)∈([(1,1),(2,2),(0,0)]:List (Nat×Nat))/\False/\True)/\True)/\(beq nh (0:Nat)=false->(decide (bF nh fh=(0:Int))=true->(true=true/\((2,2)∈([(3,3),(1,1),(2,2),(0,0)]:List (Nat×Nat))/\0=0)/\(i64=i64/\(0:Int)=(0:Int))/\(i64=i64/\(0:Int)=(0:Int))/\True)/\([str,Sh.bool,int i64]=[str,Sh.bool,int i64]/\true=true/\ ∀y2:List UInt8,(stM fh nh y2:Option (List FD))=stM fh y1 y2)/\((196:TypeId)=(196:TypeId)/\2=2/\(1,1)∈([(3,3),(1,1),(2,2),(0,0)]:List (Nat×Nat))/\((3,3)∈([(3,3),(1,1),(2,2),(0,0)]:List (Nat×Nat))/\length (aS fh nh)=length (aS fh y1))/\True)/\((9:TypeId)=(9:TypeId)/\[str]=[str]/\length (aS fh nh)=length (aS fh y1)/\ ∀y2:Nat,y2<length (aS fh nh)-> ∀y3:Nat,y3<length [str]->aC (aS fh nh) y2 y3=aC (aS fh y1) y2 y3)/\True)/\(decide (bF nh fh=(0:Int))=false->(true=true/\False/\(i64=i64/\lU nh fh=(0:Int))/\(i64=i64/\bF nh fh=(0:Int))/\True)/\True))))):=by kernel_rfl
 refine ⟨(And.intro (show _=_ from by kernel_rfl) (And.intro (show _=_ from by kernel_rfl) (show _=_ from by kernel_rfl))),hvc.mpr ?_⟩
 clear hvc;dsimp only [rB,rC,d6,FU,FV,FX,FY,wZ];obtain ⟨hn1,hev⟩:=zN hc
 have hit : ∀ {y:Nat} {E:Int},nh<=100->aX (evE fh) y=0->y<nh->evE fh y=E->E≠0 -> ¬nh=0/\(nh.beq 0=false -> ¬bF nh fh=0/\(¬bF nh fh=0->lU nh fh = ↑y/\bF nh fh=E)):=fun h1 h2 h3 h4 h5=>by
  obtain ⟨q1,q2⟩:=aa0 h1 h2 h3 h4 h5;exact ⟨by omega,fun _=>⟨by rw [q1];exact h5,fun _=>⟨q2,q1⟩⟩⟩
 simp
 have step : ∀ y,aX (evE fh) y=0->y<nh->nh<=100->evE fh y=0->(((1<=y+1/\y+1<=nh)/\aX (evE fh) (y+1)=0)/\nh-(y+1)<nh-y)/\((y+1:Nat):Int)=IntKind.i64.wrap (↑y+1):=fun y h1 h2 h3 h4=>⟨⟨⟨⟨by omega,by omega⟩,sH h1 h4⟩,by omega⟩,by rw [aO (by omega) (by omega)];push_cast;rfl⟩
 refine ⟨fun h100 => ?_,fun h100'=>have h100:nh<=100:=by omega
  ⟨⟨fun h0=>⟨fun _=>⟨fun k1 k2=>⟨fun _=>⟨fun hb=>⟨fun hk=>⟨fun e1 => ?_,fun e1 => ?_⟩,fun hk=>⟨fun _=>⟨fun e1 => ?_,fun e1 => ?_⟩,o9 (hev 0 h0).2⟩⟩,fun hb => ?_⟩,o9 (hev 0 h0).1⟩,fun k => ?_⟩,h0⟩,fun h0=>⟨fun _ p=>rfl,h0⟩⟩,
  fun y hy1 hyn hy=>⟨fun hlt=>⟨fun _=>⟨fun k1 k2=>⟨fun _=>⟨fun hb=>⟨fun hk=>⟨fun e1 => ?_,fun e1=>⟨fun e2 => ?_,fun e2=>⟨fun e3 => ?_,fun e3 => ?_⟩⟩⟩,fun hk=>⟨fun _=>⟨fun e1=>⟨fun e2 => ?_,fun e2=>⟨fun _ => ?_,by have:=mT fh y;omega⟩⟩,fun e1 => ?_⟩,o9 (hev y hlt).2⟩⟩,fun hb => ?_⟩,o9 (hev y hlt).1⟩,fun k => ?_⟩,hlt⟩,fun hge => ?_⟩⟩⟩
 ·have e1:bF nh fh=8:=if_neg (by omega)
  have e2:lU nh fh=0:=if_neg (by omega)
  exact ⟨by omega,fun _=>⟨by rw [e1];decide,fun _=>⟨e2,e1⟩⟩⟩
 ·exact hit (y:=0) h100 rfl h0 (by rw [kX hk hb,if_neg (by rw [e1];decide)]) (by decide)
 ·exact hit (y:=0) h100 rfl h0 (by rw [kX hk hb,if_pos e1];rfl) (by decide)
 ·obtain ⟨q1,q2⟩:=step 0 rfl h0 h100 (by rw [rA k1 k2 hk hb,if_pos e1];rfl)
  refine ⟨1,q1,by simpa using q2,fun p => ?_,by simp [aS,hk],fun j hj => ?_⟩
  ·rw [FT]
   have:iY fh 0 (evS fh 0)=((fh 0 2).s,decide ((fh 0 0).i=1),0):=by rw [iY,if_neg hk];rfl
   rw [this];rfl
  ·have:aS fh 1=[(fh 0 1).s]:=by simp [aS,hk]
   rw [this] at hj ⊢
   have:j=0:=by simpa using hj
   subst this;rfl
 ·exact hit (y:=0) h100 rfl h0 (by rw [rA k1 k2 hk hb,if_neg (by rw [e1];decide)]) (by decide)
 ·exact hit (y:=0) h100 rfl h0 (aby k1 k2 hb) (by decide)
 ·exact hit (y:=0) h100 rfl h0 (Y4 k) (by decide)
 ·exact hit h100 hy hlt (by rw [kX hk hb,if_neg (by rw [e1];decide)]) (by decide)
 ·rw [O7] at e2;exact hit h100 hy hlt (by rw [kX hk hb,if_pos e1];exact if_pos e2) (by decide)
 ·rw [O7] at e2;rw [Y3] at e3;exact hit h100 hy hlt (by rw [kX hk hb,if_pos e1];exact (if_neg (by rw [show (evS fh y).1=(FD.str (evS fh y).1).s from rfl,e2];decide)).trans (if_pos e3)) (by decide)
 ·rw [O7] at e2;rw [Y3] at e3 ⊢;obtain ⟨q1,q2⟩:=step y hy hlt h100 (by rw [kX hk hb,if_pos e1];exact (if_neg (by rw [show (evS fh y).1=(FD.str (evS fh y).1).s from rfl,e2];decide)).trans (if_neg e3))
  have hs:=uT fh y (fh y 1).s
  have ho:aS fh (y+1)=uU (aS fh y).length (aC (aS fh y)) (fh y 1).s:=by rw [Y5];simp [aS,hk]
  refine ⟨y+1,q1,q2,fun p => ?_,by rw [ho],fun j hj=>by rw [ho]⟩
  rw [FT,iY,if_pos hk]
  show _=if p=(fh y 1).s then some [FD.str [],FD.bool false,FD.int .i64 (IntKind.i64.wrap ((evS fh y).2.2+1))] else stM fh y p
  rw [aO (by have:=hs.1;show _<=(evS fh y).2.2+1;unfold evS;omega) (by have:=hs.2;show (evS fh y).2.2+1<=_;unfold evS;omega)]
  rfl
 ·rw [O7] at e2;exact hit h100 hy hlt (by rw [rA k1 k2 hk hb,if_pos e1];exact if_neg (by rw [show (evS fh y).1=(FD.str (evS fh y).1).s from rfl,e2];decide)) (by decide)
 ·rw [O7] at e2;obtain ⟨q1,q2⟩:=step y hy hlt h100 (by rw [rA k1 k2 hk hb,if_pos e1];exact if_pos e2)
  have ho:aS fh (y+1)=aS fh y++[(fh y 1).s]:=by simp [aS,hk]
  refine ⟨y+1,q1,q2,fun p => ?_,by rw [ho];simp,fun j hj => ?_⟩
  ·rw [FT,iY,if_neg hk,Y3];rfl
  ·rw [ho]
   cases hjl:Nat.blt j (aS fh y).length with
   | true=>
    have:j<(aS fh y).length:=Nat.le_of_ble_eq_true hjl
    show FD.str _=FD.str _
    simp [List.getD,List.getElem?_append_left this]
   | false=>
    have h1 : ¬ j<(aS fh y).length:=fun h=>by rw [show Nat.blt j (aS fh y).length=true from Nat.ble_eq▸h] at hjl;cases hjl
    rw [ho] at hj
    have h2:j=(aS fh y).length:=by simp at hj;omega
    subst h2
    show FD.str _=FD.str _
    simp
 ·exact hit h100 hy hlt (by rw [rA k1 k2 hk hb,if_neg (by rw [e1];decide)]) (by decide)
 ·exact hit h100 hy hlt (aby k1 k2 hb) (by decide)
 ·exact hit h100 hy hlt (Y4 k) (by decide)
 ·have:y=nh:=by omega
  subst this;exact ⟨by omega,fun _=>⟨fun _=>⟨fun _=>rfl,rfl,fun _ _=>rfl⟩,(adc h100 hy).1⟩⟩
end
end Go.Ex
namespace Go.Ex
open Go Go.Proofs Go.RowKit
open Go.IntKind (i64 wrap)
open Int (ofNat toNat)
open List (length)
open Prod (fst snd)
open Nat (beq)
open Go.Ex.Sh (int str)
open Go.Ex.FD (list)
noncomputable section
set_option maxRecDepth 1000000
def gsF:G2:=(G2.setE gsD 132 (acR LD jS LE LF))
theorem jH:cZ gsF:=(cZ.setE RZ (by kernel_rfl) (aax b8 RZ VV))
def soS (n:Nat)(f:Nat->Nat->FD)(p:List UInt8):PSt:=if bF n f=0 then (stF f n p).getD ([],false,0) else ([],false,0)
def soE (n:Nat)(f:Nat->Nat->FD)(p:List UInt8):Int:=if bF n f=0 then (if (stF f n p).isSome=true then 0 else 6) else bF n f
theorem zO (f:Nat->Nat->FD)(n:Nat)(p:List UInt8):iT (stM f n p)=(stF f n p).isSome:=by
 unfold stM
 cases stF f n p<;>rfl
theorem aa1 {n:Nat} {f:Nat->Nat->FD} (h:bF n f=0):lU n f=0:=by
 unfold bF at h;unfold lU;split at h
 ·rename_i h';rw [if_pos h'];exact sI h
 ·omega
def m9:List PT:=[.one (.list [.int .i64,.str,.str])]
def cI:List FD->Bool
 | [.list _ nh fh]=>sR nh fh
 | _=>false
def nA:List FD->List FD
 | [.list _ nh fh]=>[.int .i64 (lU nh fh),.int .i64 (bF nh fh)]
 | _=>[]
def tC (_nh:Nat)(_fh:Nat->Nat->FD):Nat->bT:=aW (fun _=>[])
theorem A7:cT (mkR gO gsF) Try.prog η0 73 (FI.of Try.f73 true) m9 (.tup [.one (.int .i64),.one (.int .i64)]) cI nA:=by
 refine aL b8 jH Try.fok73 (fun fds=>match fds with | [.list _ nh fh]=>tC nh fh | _=>aW fun _=>[]) ?_
 intro fds hf hc;obtain ⟨nh,fh,ds0,rfl,gh,hf1⟩:=hf.list;obtain rfl:=hf1.nil
 have hc:(sR nh fh)=true:=hc
 have hvc:(vcF gO gsF (FI.of Try.f73 true) m9 (.tup [.one (.int .i64),.one (.int .i64)]) (tC nh fh) noR [.list [.int .i64,.str,.str] nh fh] (nA [.list [.int .i64,.str,.str] nh fh]))=
  (true=true/\(jS [list [int i64,str,str] nh fh]=true->(beq nh (0:Nat)=true->(i64=i64/\lU nh fh=(0:Int))/\(i64=i64/\bF nh fh=(0:Int))/\True)/\(beq nh (0:Nat)=false->(decide (bF nh fh=(0:Int))=true->(i64=i64/\lU nh fh=(0:Int))/\(i64=i64/\bF nh fh=(0:Int))/\True)/\(decide (bF nh fh=(0:Int))=false->(i64=i64/\lU nh fh=lU nh fh)/\(i64=i64/\bF nh fh=bF nh fh)/\True)))/\(jS [list [int i64,str,str] nh fh]=false->False)):=by kernel_rfl
 refine hvc.mpr ?_;clear hvc;simp;exact ⟨fun _=>⟨fun h=>by subst h;exact ⟨rfl,rfl⟩,fun _ h=>⟨aa1 h,h⟩⟩,hc⟩
def FZ:List PT:=[.one (.list [.int .i64,.str,.str]),.one (.str)]
def rD:List FD->Bool
 | [.list _ nh fh,.str _]=>sR nh fh
 | _=>false
def F0:List FD->List FD
 | [.list _ nh fh,.str p]=>[.str (soS nh fh p).1,.bool (soS nh fh p).2.1,.int .i64 (soS nh fh p).2.2,.int .i64 (soE nh fh p)]
 | _=>[]
def O8 (_nh:Nat)(_fh:Nat->Nat->FD)(_p:List UInt8):Nat->bT:=aW (fun _=>[])
theorem R0:cT (mkR gO gsF) Try.prog η0 74 (FI.of Try.f74 true) FZ (.tup [.agg [.str,.bool,.int .i64],.one (.int .i64)]) rD F0:=by
 refine aL b8 jH Try.fok74 (fun fds=>match fds with | [.list _ nh fh,.str p]=>O8 nh fh p | _=>aW fun _=>[]) ?_
 intro fds hf hc;obtain ⟨nh,fh,ds0,rfl,gh,hf1⟩:=hf.list;obtain ⟨p,ds1,rfl,hf2⟩:=hf1.str;obtain rfl:=hf2.nil
 have hc:(sR nh fh)=true:=hc
 have hvc:(vcF gO gsF (FI.of Try.f74 true) FZ (.tup [.agg [.str,.bool,.int .i64],.one (.int .i64)]) (O8 nh fh p) noR [.list [.int .i64,.str,.str] nh fh,.str p] (F0 [.list [.int .i64,.str,.str] nh fh,.str p]))=
  (true=true/\(jS [list [int i64,str,str] nh fh]=true->(beq nh (0:Nat)=true->(true=false->((fst (soS nh fh p):List UInt8)=[]/\fst (snd (soS nh fh p))=false/\(i64=i64/\snd (snd (soS nh fh p))=(0:Int))/\True)/\(i64=i64/\soE nh fh p=(0:Int))/\True)/\(true=true->(false=false->((fst (soS nh fh p):List UInt8)=[]/\fst (snd (soS nh fh p))=false/\(i64=i64/\snd (snd (soS nh fh p))=(0:Int))/\True)/\(i64=i64/\soE nh fh p=(6:Int))/\True)/\(false=true->(fst (soS nh fh p)=[]/\fst (snd (soS nh fh p))=false/\(i64=i64/\snd (snd (soS nh fh p))=(0:Int))/\True)/\(i64=i64/\soE nh fh p=(0:Int))/\True)))/\(beq nh (0:Nat)=false->(decide (bF nh fh=(0:Int))=true->(true=false->((fst (soS nh fh p):List UInt8)=[]/\fst (snd (soS nh fh p))=false/\(i64=i64/\snd (snd (soS nh fh p))=(0:Int))/\True)/\(i64=i64/\soE nh fh p=(0:Int))/\True)/\(true=true->(iT (stM fh nh p)=false->((fst (soS nh fh p):List UInt8)=[]/\fst (snd (soS nh fh p))=false/\(i64=i64/\snd (snd (soS nh fh p))=(0:Int))/\True)/\(i64=i64/\soE nh fh p=(6:Int))/\True)/\(iT (stM fh nh p)=true->(fst (soS nh fh p)=FD.s (mgt (stM fh nh p) [FD.str [],FD.bool false,FD.int i64 (0:Int)] (0:Nat))/\fst (snd (soS nh fh p))=FD.b (mgt (stM fh nh p) [FD.str [],FD.bool false,FD.int i64 (0:Int)] ((0:Nat)+(1:Nat)))/\(i64=i64/\snd (snd (soS nh fh p))=FD.i (mgt (stM fh nh p) [FD.str [],FD.bool false,FD.int i64 (0:Int)] ((0:Nat)+(1:Nat)+(1:Nat))))/\True)/\(i64=i64/\soE nh fh p=(0:Int))/\True)))/\(decide (bF nh fh=(0:Int))=false->(decide (bF nh fh=(0:Int))=false->((fst (soS nh fh p):List UInt8)=[]/\fst (snd (soS nh fh p))=false/\(i64=i64/\snd (snd (soS nh fh p))=(0:Int))/\True)/\(i64=i64/\soE nh fh p=bF nh fh)/\True)/\(decide (bF nh fh=(0:Int))=true->False))))/\(jS [list [int i64,str,str] nh fh]=false->False)):=by kernel_rfl
 refine hvc.mpr ?_;clear hvc;simp;refine ⟨fun _=>⟨fun h => ?_,fun _=>⟨fun h=>⟨fun h2 => ?_,fun h2 => ?_⟩,fun h=>⟨fun _ => ?_,h⟩⟩⟩,hc⟩
 ·subst h;exact ⟨⟨rfl,rfl,rfl⟩,rfl⟩
 ·rw [zO] at h2;rw [soS,soE,if_pos h,if_pos h,if_neg (by rw [h2];decide)]
  cases he:stF fh nh p with
  | none=>exact ⟨⟨rfl,rfl,rfl⟩,rfl⟩
  | some s=>rw [he] at h2;cases h2
 ·rw [zO] at h2;rw [soS,soE,if_pos h,if_pos h,if_pos h2,o8,o8,o8];exact ⟨⟨rfl,rfl,rfl⟩,rfl⟩
 ·rw [soS,soE,if_neg h,if_neg h];exact ⟨⟨rfl,rfl,rfl⟩,rfl⟩
def Y6 (f:Nat->Nat->FD)(i:Nat):Bool:=decide (0<=(f i 0).i)&&decide ((f i 0).i<=2)
def zP (n:Nat)(f:Nat->Nat->FD):Bool:=Nat.ble n 102&&aH (Y6 f) n
theorem O9 {n:Nat} {f:Nat->Nat->FD} (h:zP n f=true):n<=102 /\ ∀ i,i<n->0<=(f i 0).i/\(f i 0).i<=2:=by
 simp only [zP,Bool.and_eq_true,Nat.ble_eq] at h;refine ⟨h.1,fun i hi => ?_⟩
 have:=bG h.2 i hi
 simpa only [Y6,Bool.and_eq_true,decide_eq_true_eq] using this
def R1:List PT:=[.one (.list [.int .i64,.str,.str]),.one (.str)]
def LG:List FD->Bool
 | [.list _ nh fh,.str _]=>zP nh fh
 | _=>false
def R2:List FD->List FD
 | [.list _ nh fh,.str p]=>[.str ((stF fh nh p).getD ([],false,0)).1,.bool ((stF fh nh p).getD ([],false,0)).2.1,.int .i64 ((stF fh nh p).getD ([],false,0)).2.2,.bool (stF fh nh p).isSome]
 | _=>[]
def Y7 (nh:Nat)(fh:Nat->Nat->FD)(p:List UInt8):Nat->bT:=fun i=>match i with | 4=>⟨Nat,fun _=>[{ι:=Nat,G:=fun x=>x<=nh,μ:=fun x=>nh-x,tl:=fun x=>[(0,.one (.fz (.root 0 0) (list [int i64,str,str] nh fh))),(1,.one (.ostr p)),(4,.one (.ptr (some (1,0)))),(5,.one (.bool (.lit false))),(6,.one (.ptr (some (2,0)))),(7,.one (.bool (.at_ false (.tm (stF fh x p).isSome)))),(8,.one (.int i64 (.tm (ofNat x))))],bl:=fun x=>[(1,.cells 124 3 [.str [],.bool (.lit false),.int i64 (.lit (0:Int))]),(2,.cells 124 3 [.ostr ((stF fh x p).getD ([],false,0)).1,.bool (.at_ false (.tm ((stF fh x p).getD ([],false,0)).2.1)),.int .i64 (.tm ((stF fh x p).getD ([],false,0)).2.2)])],nx:=(1:Nat)+(1:Nat)+(1:Nat)}]⟩ | _=>⟨Nat,fun _=>[]⟩
theorem Y8:cT (mkR gO gsF) Try.prog η0 78 (FI.of Try.f78 true) R1 (.tup [.agg [.str,.bool,.int .i64],.one .bool]) LG R2:=by
 refine aL b8 jH Try.fok78 (fun fds=>match fds with | [.list _ nh fh,.str p]=>Y7 nh fh p | _=>aW fun _=>[]) ?_
 intro fds hf hc;obtain ⟨nh,fh,ds0,rfl,gh,hf1⟩:=hf.list;obtain ⟨p,ds1,rfl,hf2⟩:=hf1.str;obtain rfl:=hf2.nil
 have hc:(zP nh fh)=true:=hc
 have hvc:(vcF gO gsF (FI.of Try.f78 true) R1 (.tup [.agg [.str,.bool,.int .i64],.one .bool]) (Y7 nh fh p) noR [.list [.int .i64,.str,.str] nh fh,.str p] (R2 [.list [.int .i64,.str,.str] nh fh,.str p]))=
  (true=true/\ ∃y0:Nat,(∃y1:Nat,(y1<=nh/\True)/\(true=true/\(Ref.root 0 0=Ref.root 0 0/\list [int i64,str,str] nh fh=list [int i64,str,str] nh fh/\true=true)/\p=p/\((1,1)∈([(2,2),(1,1)]:List (Nat×Nat))/\0=0)/\false=false/\((2,2)∈([(2,2),(1,1)]:List (Nat×Nat))/\0=0)/\Option.isSome (stF fh y1 p)=false/\(i64=i64/\ofNat y1=(0:Int))/\True)/\((124:TypeId)=(124:Nat)/\3=3/\([]:List UInt8)=[]/\false=false/\(i64=i64/\(0:Int)=(0:Int))/\True)/\((124:TypeId)=(124:Nat)/\3=3/\(fst (Option.getD (stF fh y1 p) ([],false,(0:Int))):List UInt8)=[]/\fst (snd (Option.getD (stF fh y1 p) ([],false,(0:Int))))=false/\(i64=i64/\snd (snd (Option.getD (stF fh y1 p) ([],false,(0:Int))))=(0:Int))/\True)/\True)/\ ∀y1:Nat,y1<=nh->(decide (ofNat y1<ofNat nh)=true->((decide ((0:Int)<=ofNat y1)&&decide (ofNat y1<(↑nh:Int)))=true->((! (aA (FD.s (fh (toNat (ofNat y1)) ((0:Nat)+Field.offset {name:= "Part",type:=(9:Nat),offset:=(1:Nat),embedded:=false,tag:= "",pkgPath:= "",byteOffset:=(8:Nat)}))) p))=true-> ∃y2:Nat,(y2<=nh/\nh-y2<nh-y1)/\(true=true/\(Ref.root 0 0=Ref.root 0 0/\list [int i64,str,str] nh fh=list [int i64,str,str] nh fh/\true=true)/\p=p/\((1,1)∈([(2,2),(1,1)]:List (Nat×Nat))/\0=0)/\false=false/\((2,2)∈([(2,2),(1,1)]:List (Nat×Nat))/\0=0)/\Option.isSome (stF fh y2 p)=Option.isSome (stF fh y1 p)/\(i64=i64/\ofNat y2=wrap i64 (ofNat y1+(1:Int)))/\True)/\((124:TypeId)=(124:TypeId)/\3=3/\([]:List UInt8)=[]/\false=false/\(i64=i64/\(0:Int)=(0:Int))/\True)/\((124:TypeId)=(124:TypeId)/\3=3/\fst (Option.getD (stF fh y2 p) ([],false,(0:Int)))=fst (Option.getD (stF fh y1 p) ([],false,(0:Int)))/\fst (snd (Option.getD (stF fh y2 p) ([],false,(0:Int))))=fst (snd (Option.getD (stF fh y1 p) ([],false,(0:Int))))/\(i64=i64/\snd (snd (Option.getD (stF fh y2 p) ([],false,(0:Int))))=snd (snd (Option.getD (stF fh y1 p) ([],false,(0:Int)))))/\True)/\True)/\((! (aA (FD.s (fh (toNat (ofNat y1)) ((0:Nat)+Field.offset {name:= "Part",type:=(9:Nat),offset:=(1:Nat),embedded:=false,tag:= "",pkgPath:= "",byteOffset:=(8:Nat)}))) p))=false->((decide ((0:Int)<=ofNat y1)&&decide (ofNat y1<(↑nh:Int)))=true->(decide (FD.i (fh (toNat (ofNat y1)) ((0:Nat)+Field.offset {name:= "Kind",type:=(3:Nat),offset:=(0:Nat),embedded:=false,tag:= "",pkgPath:= "",byteOffset:=(0:Nat)}))=(0:Int))=true->((decide ((0:Int)<=ofNat y1)&&decide (ofNat y1<(↑nh:Int)))=true-> ∃y2:Nat,(y2<=nh/\nh-y2<nh-y1)/\(true=true/\(Ref.root 0 0=Ref.root 0 0/\list [int i64,str,str] nh fh=list [int i64,str,str] nh fh/\true=true)/\p=p/\((1,1)∈([(2,2),(1,1)]:List (Nat×Nat))/\0=0)/\false=false/\((2,2)∈([(2,2),(1,1)]:List (Nat×Nat))/\0=0)/\Option.isSome (stF fh y2 p)=true/\(i64=i64/\ofNat y2=wrap i64 (ofNat y1+(1:Int)))/\True)/\((124:TypeId)=(124:TypeId)/\3=3/\([]:List UInt8)=[]/\false=false/\(i64=i64/\(0:Int)=(0:Int))/\True)/\((124:TypeId)=(124:TypeId)/\3=3/\fst (Option.getD (stF fh y2 p) ([],false,(0:Int)))=FD.s (fh (toNat (ofNat y1)) ((0:Nat)+Field.offset {name:= "Batch",type:=(9:Nat),offset:=(2:Nat),embedded:=false,tag:= "",pkgPath:= "",byteOffset:=(24:Nat)}))/\fst (snd (Option.getD (stF fh y2 p) ([],false,(0:Int))))=false/\(i64=i64/\snd (snd (Option.getD (stF fh y2 p) ([],false,(0:Int))))=snd (snd (Option.getD (stF fh y1 p) ([],false,(0:Int)))))/\True)/\True)/\((decide ((0:Int)<=ofNat y1)&&decide (ofNat y1<(↑nh:Int)))=false->False))/\(decide (FD.i (fh (toNat (ofNat y1)) ((0:Nat)+Field.offset {name:= "Kind",type:=(3:Nat),offset:=(0:Nat),embedded:=false,tag:= "",pkgPath:= "",byteOffset:=(0:Nat)}))=(0:Int))=false->(decide (FD.i (fh (toNat (ofNat y1)) ((0:Nat)+Field.offset {name:= "Kind",type:=(3:Nat),offset:=(0:Nat),embedded:=false,tag:= "",pkgPath:= "",byteOffset:=(0:Nat)}))=(1:Int))=true->((decide ((0:Int)<=ofNat y1)&&decide (ofNat y1<(↑nh:Int)))=true-> ∃y2:Nat,(y2<=nh/\nh-y2<nh-y1)/\(true=true/\(Ref.root 0 0=Ref.root 0 0/\list [int i64,str,str] nh fh=list [int i64,str,str] nh fh/\true=true)/\p=p/\((1,1)∈([(2,2),(1,1)]:List (Nat×Nat))/\0=0)/\false=false/\((2,2)∈([(2,2),(1,1)]:List (Nat×Nat))/\0=0)/\Option.isSome (stF fh y2 p)=true/\(i64=i64/\ofNat y2=wrap i64 (ofNat y1+(1:Int)))/\True)/\((124:TypeId)=(124:TypeId)/\3=3/\([]:List UInt8)=[]/\false=false/\(i64=i64/\(0:Int)=(0:Int))/\True)/\((124:TypeId)=(124:TypeId)/\3=3/\fst (Option.getD (stF fh y2 p) ([],false,(0:Int)))=FD.s (fh (toNat (ofNat y1)) ((0:Nat)+Field.offset {name:= "Batch",type:=(9:Nat),offset:=(2:Nat),embedded:=false,tag:= "",pkgPath:= "",byteOffset:=(24:Nat)}))/\fst (snd (Option.getD (stF fh y2 p) ([],false,(0:Int))))=true/\(i64=i64/\snd (snd (Option.getD (stF fh y2 p) ([],false,(0:Int))))=snd (snd (Option.getD (stF fh y1 p) ([],false,(0:Int)))))/\True)/\True)/\((decide ((0:Int)<=ofNat y1)&&decide (ofNat y1<(↑nh:Int)))=false->False))/\(decide (FD.i (fh (toNat (ofNat y1)) ((0:Nat)+Field.offset {name:= "Kind",type:=(3:Nat),offset:=(0:Nat),embedded:=false,tag:= "",pkgPath:= "",byteOffset:=(0:Nat)}))=(1:Int))=false->(decide (FD.i (fh (toNat (ofNat y1)) ((0:Nat)+Field.offset {name:= "Kind",type:=(3:Nat),offset:=(0:Nat),embedded:=false,tag:= "",pkgPath:= "",byteOffset:=(0:Nat)}))=(2:Int))=true-> ∃y2:Nat,(y2<=nh/\nh-y2<nh-y1)/\(true=true/\(Ref.root 0 0=Ref.root 0 0/\list [int i64,str,str] nh fh=list [int i64,str,str] nh fh/\true=true)/\p=p/\((1,1)∈([(2,2),(1,1)]:List (Nat×Nat))/\0=0)/\false=false/\((2,2)∈([(2,2),(1,1)]:List (Nat×Nat))/\0=0)/\Option.isSome (stF fh y2 p)=true/\(i64=i64/\ofNat y2=wrap i64 (ofNat y1+(1:Int)))/\True)/\((124:TypeId)=(124:TypeId)/\3=3/\([]:List UInt8)=[]/\false=false/\(i64=i64/\(0:Int)=(0:Int))/\True)/\((124:TypeId)=(124:TypeId)/\3=3/\fst (Option.getD (stF fh y2 p) ([],false,(0:Int)))=Array.toList (ByteArray.data {data:= #[]})/\fst (snd (Option.getD (stF fh y2 p) ([],false,(0:Int))))=false/\(i64=i64/\snd (snd (Option.getD (stF fh y2 p) ([],false,(0:Int))))=wrap i64 (snd (snd (Option.getD (stF fh y1 p) ([],false,(0:Int))))+(1:Int)))/\True)/\True)/\(decide (FD.i (fh (toNat (ofNat y1)) ((0:Nat)+Field.offset {name:= "Kind",type:=(3:Nat),offset:=(0:Nat),embedded:=false,tag:= "",pkgPath:= "",byteOffset:=(0:Nat)}))=(2:Int))=false-> ∃y2:Nat,(y2<=nh/\nh-y2<nh-y1)/\(true=true/\(Ref.root 0 0=Ref.root 0 0/\list [int i64,str,str] nh fh=list [int i64,str,str] nh fh/\true=true)/\p=p/\((1,1)∈([(2,2),(1,1)]:List (Nat×Nat))/\0=0)/\false=false/\((2,2)∈([(2,2),(1,1)]:List (Nat×Nat))/\0=0)/\Option.isSome (stF fh y2 p)=true/\(i64=i64/\ofNat y2=wrap i64 (ofNat y1+(1:Int)))/\True)/\((124:TypeId)=(124:TypeId)/\3=3/\([]:List UInt8)=[]/\false=false/\(i64=i64/\(0:Int)=(0:Int))/\True)/\((124:TypeId)=(124:TypeId)/\3=3/\fst (Option.getD (stF fh y2 p) ([],false,(0:Int)))=fst (Option.getD (stF fh y1 p) ([],false,(0:Int)))/\fst (snd (Option.getD (stF fh y2 p) ([],false,(0:Int))))=fst (snd (Option.getD (stF fh y1 p) ([],false,(0:Int))))/\(i64=i64/\snd (snd (Option.getD (stF fh y2 p) ([],false,(0:Int))))=snd (snd (Option.getD (stF fh y1 p) ([],false,(0:Int)))))/\True)/\True))))/\((decide ((0:Int)<=ofNat y1)&&decide (ofNat y1<(↑nh:Int)))=false->False)))/\((decide ((0:Int)<=ofNat y1)&&decide (ofNat y1<(↑nh:Int)))=false->False))/\(decide (ofNat y1<ofNat nh)=false->(fst (Option.getD (stF fh nh p) ([],false,(0:Int)))=fst (Option.getD (stF fh y1 p) ([],false,(0:Int)))/\fst (snd (Option.getD (stF fh nh p) ([],false,(0:Int))))=fst (snd (Option.getD (stF fh y1 p) ([],false,(0:Int))))/\(i64=i64/\snd (snd (Option.getD (stF fh nh p) ([],false,(0:Int))))=snd (snd (Option.getD (stF fh y1 p) ([],false,(0:Int)))))/\True)/\Option.isSome (stF fh nh p)=Option.isSome (stF fh y1 p)/\True)):=by kernel_rfl
 refine hvc.mpr ?_;clear hvc;obtain ⟨hn,hk⟩:=O9 hc;simp
 have up : ∀ y,y<nh->(y+1<=nh/\nh-(y+1)<nh-y):=fun y h=>⟨by omega,by omega⟩
 have w1 : ∀ y,y<nh->((y+1:Nat):Int)=IntKind.i64.wrap ((y:Int)+1):=fun y h=>by rw [aO (by omega) (by omega)];rfl
 have nx0 : ∀ y,aA (fh y 1).s p=false->stF fh (y+1) p=stF fh y p:=fun y h=>by rw [stF,if_neg (by rw [h];decide)]
 have nx1 : ∀ y,aA (fh y 1).s p=true->stF fh (y+1) p=some (iY fh y ((stF fh y p).getD ([],false,0))):=fun y h=>by rw [stF,if_pos h]
 refine ⟨⟨0,by omega,⟨rfl,rfl⟩,rfl,rfl,rfl⟩,fun y hy=>⟨fun hlt=>⟨fun _=>⟨fun e=>⟨y+1,up y hlt,?_⟩,fun e=>⟨fun _=>⟨fun k0=>⟨fun _=>⟨y+1,up y hlt,?_⟩,hlt⟩,fun k0=>⟨fun k1=>⟨fun _=>⟨y+1,up y hlt,?_⟩,hlt⟩,fun k1=>⟨fun k2=>⟨y+1,up y hlt,?_⟩,fun k2 => ?_⟩⟩⟩,hlt⟩⟩,hlt⟩,fun hge => ?_⟩⟩
 ·rw [nx0 y e];exact ⟨⟨rfl,w1 y hlt⟩,rfl,rfl,rfl⟩
 ·rw [nx1 y e,iY,if_neg (by omega)]
  exact ⟨⟨rfl,w1 y hlt⟩,rfl,by simp [k0],rfl⟩
 ·rw [nx1 y e,iY,if_neg (by omega)]
  exact ⟨⟨rfl,w1 y hlt⟩,rfl,by simp [k1],rfl⟩
 ·rw [nx1 y e,iY,if_pos k2]
  have hs:=uT fh y p
  exact ⟨⟨rfl,w1 y hlt⟩,rfl,rfl,by rw [aO (by omega) (by omega)];rfl⟩
 ·have:=hk y hlt
  omega
 ·obtain rfl:y=nh:=by omega
  exact ⟨⟨rfl,rfl,rfl⟩,rfl⟩
def aa2:T Smf:=(T.set gO 78 (some (gFd R1 (.tup [.agg [.str,.bool,.int .i64],.one .bool]) LG R2)))
theorem LH:Tab fC aa2:=(Tab.set b8 (by kernel_rfl) (aV b8 jH Y8 rfl))
def pI (n:Nat)(f:Nat->Nat->FD)(k:Int)(a b:List UInt8):Int:=
 if 0<=k/\k<=2 then (if aM a=true then
  (if k=2 then (if aA b []=true then (if aA ((stF f n a).getD ([],false,0)).1 []=true then 22 else if ((stF f n a).getD ([],false,0)).2.2=3 then 16 else 0) else 13)
   else (if aM b=true then (if aA ((stF f n a).getD ([],false,0)).1 []=true then 0 else 22) else 3)) else 3) else 11
def zQ:List PT:=[.one (.list [.int .i64,.str,.str]),.agg [.int .i64,.str,.str]]
def IW:List FD->Bool
 | [.list _ nh fh,.int _ _,.str a,.str b]=>zP nh fh&&(Nat.ble a.length 20&&Nat.ble b.length 20)
 | _=>false
def zR:List FD->List FD
 | [.list _ nh fh,.int _ k,.str a,.str b]=>[.int .i64 (pI nh fh k a b)]
 | _=>[]
def IX (_nh:Nat)(_fh:Nat->Nat->FD)(_k:Int)(_a _b:List UInt8):Nat->bT:=aW (fun _=>[])
theorem PA:cT (mkR aa2 gsF) Try.prog η0 138 (FI.of Try.f138 true) zQ (.one (.int .i64)) IW zR:=by
 refine aL LH jH Try.fok138 (fun fds=>match fds with | [.list _ nh fh,.int _ k,.str a,.str b]=>IX nh fh k a b | _=>aW fun _=>[]) ?_
 intro fds hf hc;obtain ⟨nh,fh,ds0,rfl,gh,hf1⟩:=hf.list;obtain ⟨k,ds1,rfl,hf2⟩:=hf1.int;obtain ⟨a,ds2,rfl,hf3⟩:=hf2.str;obtain ⟨b,ds3,rfl,hf4⟩:=hf3.str;obtain rfl:=hf4.nil
 have hc:(zP nh fh&&(Nat.ble a.length 20&&Nat.ble b.length 20))=true:=hc
 have hvc:(vcF aa2 gsF (FI.of Try.f138 true) zQ (.one (.int .i64)) (IX nh fh k a b) noR [.list [.int .i64,.str,.str] nh fh,.int .i64 k,.str a,.str b] (zR [.list [.int .i64,.str,.str] nh fh,.int .i64 k,.str a,.str b]))=
  (true=true/\(true=true->((decide ((0:Int)<=k)&&decide (k<=(2:Int)))=false->i64=i64/\pI nh fh k a b=(11:Int))/\((decide ((0:Int)<=k)&&decide (k<=(2:Int)))=true->(fA [FD.str a]=true->(aM a=false->i64=i64/\pI nh fh k a b=(3:Int))/\(aM a=true->(LG [list [int i64,str,str] nh fh,FD.str a]=true->(decide (k=(2:Int))=false->(fA [FD.str b]=true->(aM b=false->i64=i64/\pI nh fh k a b=(3:Int))/\(aM b=true->((! (aA (fst (Option.getD (stF fh nh a) ([],false,(0:Int)))) (Array.toList (ByteArray.data {data:= #[]}))))=true->i64=i64/\pI nh fh k a b=(22:Int))/\((! (aA (fst (Option.getD (stF fh nh a) ([],false,(0:Int)))) (Array.toList (ByteArray.data {data:= #[]}))))=false->i64=i64/\pI nh fh k a b=(0:Int))))/\(fA [FD.str b]=false->False))/\(decide (k=(2:Int))=true->((! (aA b (Array.toList (ByteArray.data {data:= #[]}))))=true->i64=i64/\pI nh fh k a b=(13:Int))/\((! (aA b (Array.toList (ByteArray.data {data:= #[]}))))=false->(aA (fst (Option.getD (stF fh nh a) ([],false,(0:Int)))) (Array.toList (ByteArray.data {data:= #[]}))=true->i64=i64/\pI nh fh k a b=(22:Int))/\(aA (fst (Option.getD (stF fh nh a) ([],false,(0:Int)))) (Array.toList (ByteArray.data {data:= #[]}))=false->(decide (snd (snd (Option.getD (stF fh nh a) ([],false,(0:Int))))=(3:Int))=true->i64=i64/\pI nh fh k a b=(16:Int))/\(decide (snd (snd (Option.getD (stF fh nh a) ([],false,(0:Int))))=(3:Int))=false->i64=i64/\pI nh fh k a b=(0:Int))))))/\(LG [list [int i64,str,str] nh fh,FD.str a]=false->False)))/\(fA [FD.str a]=false->False)))/\(true=false->False)):=by kernel_rfl
 refine hvc.mpr ?_;clear hvc;simp only [Bool.and_eq_true,Nat.ble_eq] at hc;obtain ⟨hk,ha,hb⟩:=hc
 have n1 : ∀ l:List UInt8,l.length<=20->fA [.str l]=true:=fun l h=>Nat.ble_eq_true_of_le (by omega)
 simp;refine ⟨fun h => ?_,fun k0 k1=>⟨fun _=>⟨fun e => ?_,fun e=>⟨fun _=>⟨fun k2=>⟨fun _=>⟨fun e1 => ?_,fun e1=>⟨fun e2 => ?_,fun e2 => ?_⟩⟩,n1 b hb⟩,fun k2=>⟨fun e1 => ?_,fun e1=>⟨fun e2 => ?_,fun e2=>⟨fun e3 => ?_,fun e3 => ?_⟩⟩⟩⟩,hk⟩⟩,n1 a ha⟩⟩
 ·rw [pI,if_neg (fun h'=>by have:=h h'.1;omega)]
 all_goals rw [pI,if_pos ⟨k0,k1⟩]
 ·rw [if_neg (by rw [e];decide)]
 all_goals rw [if_pos e]
 ·rw [if_neg k2,if_neg (by rw [e1];decide)]
 ·rw [if_neg k2,if_pos e1,if_neg (by rw [e2];decide)]
 ·rw [if_neg k2,if_pos e1,if_pos e2]
 ·rw [if_pos k2,if_neg (by rw [e1];decide)]
 ·rw [if_pos k2,if_pos e1,if_pos e2]
 ·rw [if_pos k2,if_pos e1,if_neg (by rw [e2];decide),if_pos e3]
 ·rw [if_pos k2,if_pos e1,if_neg (by rw [e2];decide),if_neg e3]
def ade:T Smf:=(T.set aa2 138 (some (gFd zQ (.one (.int .i64)) IW zR)))
theorem T6:Tab fC ade:=(Tab.set LH (by kernel_rfl) (aV LH jH PA rfl))
end
end Go.Ex
