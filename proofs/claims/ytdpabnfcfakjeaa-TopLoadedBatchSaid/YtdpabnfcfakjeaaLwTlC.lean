/-
 TopLoadedBatch: the region that lays a part's event, in all its orders.
-/
import Derived.Test.YtdpabnfcfakjeaaLwTlA
namespace Go.Ex
open Go Go.Proofs Go.RowKit
open Go.IntKind (i64)
open List (length)
open Go.Ex.Sh (str)
noncomputable section
set_option maxRecDepth 1000000
abbrev GV (g:Nat)(f:Nat->Nat->FD)(pc:Int)(q:List UInt8)(y:Nat):Prop:=((35:TypeId)=(35:TypeId)/\2=2/\(Ref.root 0 0=Ref.root 0 0/\FD.list [str,Sh.list [Sh.int i64]] g f=FD.list [str,Sh.list [Sh.int i64]] g f/\true=true)/\(i64=i64/\pc=pc)/\True)/\((145:TypeId)=(145:TypeId)/\[Sh.int i64,str,str]=[Sh.int i64,str,str]/\length (nmL f (blT g f) (y+(1:Nat)))=1/\ ∀y2:Nat,y2<length (nmL f (blT g f) (y+(1:Nat)))-> ∀y3:Nat,y3<length [Sh.int i64,str,str]->evF (nmL f (blT g f) (y+(1:Nat))) q y2 y3=bD [FD.int i64 (1:Int),FD.str (FD.s (f (Int.toNat (Int.ofNat y)) ((0:Nat)+Field.offset {name:= "Name",type:=(9:Nat),offset:=(0:Nat),embedded:=false,tag:= "",pkgPath:= "",byteOffset:=(0:Nat)}))),FD.str q] y3)/\((9:TypeId)=(9:TypeId)/\[str]=[str]/\length (nmL f (blT g f) (y+(1:Nat)))=1/\ ∀y2:Nat,y2<length (nmL f (blT g f) (y+(1:Nat)))-> ∀y3:Nat,y3<length [str]->aC (nmL f (blT g f) (y+(1:Nat))) y2 y3=bD [FD.str (FD.s (f (Int.toNat (Int.ofNat y)) ((0:Nat)+Field.offset {name:= "Name",type:=(9:Nat),offset:=(0:Nat),embedded:=false,tag:= "",pkgPath:= "",byteOffset:=(0:Nat)})))] y3)/\True
abbrev lY (g:Nat)(f:Nat->Nat->FD)(pc:Int)(q:List UInt8)(y:Nat):Prop:=(true=true->(true=true-> ∃y1:Nat,(True/\True)/\(true=true/\q=q/\((1,1)∈([(6,9),(5,8),(1,1)]:List (Nat×Nat))/\0=0)/\(Ref.root 3 0=Ref.root 3 0/\FD.list [Sh.int i64] (blN pc g f) (LS.pl (blT g f))=FD.list [Sh.int i64] (blN pc g f) (LS.pl (blT g f))/\true=true)/\(i64=i64/\blV pc g f=blV pc g f)/\((5,8)∈([(6,9),(5,8),(1,1)]:List (Nat×Nat))/\length (nmL f (blT g f) (y+(1:Nat)))=1)/\((6,9)∈([(6,9),(5,8),(1,1)]:List (Nat×Nat))/\length (nmL f (blT g f) (y+(1:Nat)))=1)/\(i64=i64/\Int.ofNat y=Int.ofNat y)/\True)/\GV g f pc q y)/\(true=false->False))/\(true=false->False)
abbrev rJ (g:Nat)(f:Nat->Nat->FD)(pc:Int)(q:List UInt8)(y:Nat):Prop:=(true=true->(true=true-> ∃y1:Nat,(True/\True)/\(true=true/\q=q/\((1,1)∈([(6,9),(5,7),(1,1)]:List (Nat×Nat))/\0=0)/\(Ref.root 3 0=Ref.root 3 0/\FD.list [Sh.int i64] (blN pc g f) (LS.pl (blT g f))=FD.list [Sh.int i64] (blN pc g f) (LS.pl (blT g f))/\true=true)/\(i64=i64/\blV pc g f=blV pc g f)/\((5,7)∈([(6,9),(5,7),(1,1)]:List (Nat×Nat))/\length (nmL f (blT g f) (y+(1:Nat)))=1)/\((6,9)∈([(6,9),(5,7),(1,1)]:List (Nat×Nat))/\length (nmL f (blT g f) (y+(1:Nat)))=1)/\(i64=i64/\Int.ofNat y=Int.ofNat y)/\True)/\GV g f pc q y)/\(true=false->False))/\(true=false->False)
theorem V7 (g:Nat)(f:Nat->Nat->FD)(pc:Int)(q:List UInt8)(y:Nat) (h0:nmL f (blT g f) y=[]) (hp : ¬ ((blT g f).pl y 0).i<0):zZ g f pc q y y:=by
 have hvca:(zZ g f pc q y y)=
  ((((rJ g f pc q y)/\((rJ g f pc q y)/\(lY g f pc q y)))/\(((rJ g f pc q y)/\(lY g f pc q y))/\(lY g f pc q y)))/\((((rJ g f pc q y)/\(lY g f pc q y))/\(lY g f pc q y))/\(lY g f pc q y))):=by kernel_rfl
 refine hvca.mpr ?_;clear hvca
 have e:nmL f (blT g f) (y+1)=[(f y 0).s]:=by rw [G0 hp,h0];rfl
 have hl:(nmL f (blT g f) (y+1)).length=1:=by rw [e];rfl
 have h0:GV g f pc q y:=⟨⟨rfl,rfl,⟨rfl,rfl,rfl⟩,⟨rfl,rfl⟩,trivial⟩,⟨rfl,rfl,hl,fun y2 h2 y3 _=>by rw [hl] at h2;rw [e];exact adx h2 y3⟩,⟨rfl,rfl,hl,fun y2 h2 y3 h3=>by rw [hl] at h2;rw [e];exact abd h2 h3⟩,trivial⟩
 have h1:lY g f pc q y:=⟨fun _=>⟨fun _=>⟨0,⟨trivial,trivial⟩,⟨rfl,rfl,⟨by simp,rfl⟩,⟨rfl,rfl,rfl⟩,⟨rfl,rfl⟩,⟨by simp,hl⟩,⟨by simp,hl⟩,⟨rfl,rfl⟩,trivial⟩,h0⟩,nofun⟩,nofun⟩
 have h2:rJ g f pc q y:=⟨fun _=>⟨fun _=>⟨0,⟨trivial,trivial⟩,⟨rfl,rfl,⟨by simp,rfl⟩,⟨rfl,rfl,rfl⟩,⟨rfl,rfl⟩,⟨by simp,hl⟩,⟨by simp,hl⟩,⟨rfl,rfl⟩,trivial⟩,h0⟩,nofun⟩,nofun⟩
 exact ⟨⟨⟨h2,h2,h1⟩,⟨h2,h1⟩,h1⟩,⟨⟨h2,h1⟩,h1⟩,h1⟩
abbrev GW (g:Nat)(f:Nat->Nat->FD)(pc:Int)(q:List UInt8)(y:Nat):Prop:=((35:TypeId)=(35:TypeId)/\2=2/\(Ref.root 0 0=Ref.root 0 0/\FD.list [str,Sh.list [Sh.int i64]] g f=FD.list [str,Sh.list [Sh.int i64]] g f/\true=true)/\(i64=i64/\pc=pc)/\True)/\((145:TypeId)=(145:TypeId)/\[Sh.int i64,str,str]=[Sh.int i64,str,str]/\length (nmL f (blT g f) (y+(1:Nat)))=length (nmL f (blT g f) y)+(1:Nat)/\ ∀y2:Nat,y2<length (nmL f (blT g f) (y+(1:Nat)))-> ∀y3:Nat,y3<length [Sh.int i64,str,str]->evF (nmL f (blT g f) (y+(1:Nat))) q y2 y3=bif Nat.blt y2 (length (nmL f (blT g f) y)) then evF (nmL f (blT g f) y) q y2 y3 else bD [FD.int i64 (0:Int),FD.str (FD.s (f (Int.toNat (Int.ofNat y)) ((0:Nat)+Field.offset {name:= "Name",type:=(9:Nat),offset:=(0:Nat),embedded:=false,tag:= "",pkgPath:= "",byteOffset:=(0:Nat)}))),FD.str q] y3)/\((9:TypeId)=(9:TypeId)/\[str]=[str]/\length (nmL f (blT g f) (y+(1:Nat)))=length (nmL f (blT g f) y)+(1:Nat)/\ ∀y2:Nat,y2<length (nmL f (blT g f) (y+(1:Nat)))-> ∀y3:Nat,y3<length [str]->aC (nmL f (blT g f) (y+(1:Nat))) y2 y3=bif Nat.blt y2 (length (nmL f (blT g f) y)) then aC (nmL f (blT g f) y) y2 y3 else bD [FD.str (FD.s (f (Int.toNat (Int.ofNat y)) ((0:Nat)+Field.offset {name:= "Name",type:=(9:Nat),offset:=(0:Nat),embedded:=false,tag:= "",pkgPath:= "",byteOffset:=(0:Nat)})))] y3)/\True
abbrev rK (g:Nat)(f:Nat->Nat->FD)(y:Nat):Prop:=(Nat.beq (length (nmL f (blT g f) y)) (length (nmL f (blT g f) y))&&(true&&Nat.ble (length (nmL f (blT g f) y)+(1:Nat)) (1000000:Nat)))=false->False
abbrev rL (g:Nat)(f:Nat->Nat->FD)(y:Nat):Prop:=(Nat.beq (length (nmL f (blT g f) y)) (length (nmL f (blT g f) y))&&(true&&Nat.ble (length (nmL f (blT g f) y)+(1:Nat)) (1000000:Nat)))=true
abbrev lZ (g:Nat)(f:Nat->Nat->FD)(pc:Int)(q:List UInt8)(y:Nat):Prop:=(rL g f y->(rL g f y-> ∃y1:Nat,(True/\True)/\(true=true/\q=q/\((1,1)∈([(6,11),(5,10),(1,1)]:List (Nat×Nat))/\0=0)/\(Ref.root 3 0=Ref.root 3 0/\FD.list [Sh.int i64] (blN pc g f) (LS.pl (blT g f))=FD.list [Sh.int i64] (blN pc g f) (LS.pl (blT g f))/\true=true)/\(i64=i64/\blV pc g f=blV pc g f)/\((5,10)∈([(6,11),(5,10),(1,1)]:List (Nat×Nat))/\length (nmL f (blT g f) (y+(1:Nat)))=length (nmL f (blT g f) y)+(1:Nat))/\((6,11)∈([(6,11),(5,10),(1,1)]:List (Nat×Nat))/\length (nmL f (blT g f) (y+(1:Nat)))=length (nmL f (blT g f) y)+(1:Nat))/\(i64=i64/\Int.ofNat y=Int.ofNat y)/\True)/\GW g f pc q y)/\rK g f y)/\rK g f y
abbrev rM (g:Nat)(f:Nat->Nat->FD)(pc:Int)(q:List UInt8)(y:Nat):Prop:=(rL g f y->(rL g f y-> ∃y1:Nat,(True/\True)/\(true=true/\q=q/\((1,1)∈([(6,11),(5,9),(1,1)]:List (Nat×Nat))/\0=0)/\(Ref.root 3 0=Ref.root 3 0/\FD.list [Sh.int i64] (blN pc g f) (LS.pl (blT g f))=FD.list [Sh.int i64] (blN pc g f) (LS.pl (blT g f))/\true=true)/\(i64=i64/\blV pc g f=blV pc g f)/\((5,9)∈([(6,11),(5,9),(1,1)]:List (Nat×Nat))/\length (nmL f (blT g f) (y+(1:Nat)))=length (nmL f (blT g f) y)+(1:Nat))/\((6,11)∈([(6,11),(5,9),(1,1)]:List (Nat×Nat))/\length (nmL f (blT g f) (y+(1:Nat)))=length (nmL f (blT g f) y)+(1:Nat))/\(i64=i64/\Int.ofNat y=Int.ofNat y)/\True)/\GW g f pc q y)/\rK g f y)/\rK g f y
theorem V8 (g:Nat)(f:Nat->Nat->FD)(pc:Int)(q:List UInt8)(y:Nat) (hn:(nmL f (blT g f) y).length<=10) (h0:nmL f (blT g f) y≠[]) (hp : ¬ ((blT g f).pl y 0).i<0):z1 g f pc q y y:=by
 have hvcc:(z1 g f pc q y y)=
  ((((rM g f pc q y)/\((rM g f pc q y)/\(lZ g f pc q y)))/\(((rM g f pc q y)/\(lZ g f pc q y))/\(lZ g f pc q y)))/\((((rM g f pc q y)/\(lZ g f pc q y))/\(lZ g f pc q y))/\(lZ g f pc q y))):=by kernel_rfl
 refine hvcc.mpr ?_;clear hvcc
 have e:nmL f (blT g f) (y+1)=nmL f (blT g f) y++[(f y 0).s]:=G0 hp
 have hl:(nmL f (blT g f) (y+1)).length=(nmL f (blT g f) y).length+1:=by rw [e,List.length_append];rfl
 have h2:GW g f pc q y:=⟨⟨rfl,rfl,⟨rfl,rfl,rfl⟩,⟨rfl,rfl⟩,trivial⟩,⟨rfl,rfl,hl,fun y2 h2 y3 _=>by rw [hl] at h2;rw [e];exact ady h0 h2 y3⟩,⟨rfl,rfl,hl,fun y2 h2 y3 h3=>by rw [hl] at h2;rw [e];exact abe h2 h3⟩,trivial⟩
 have h4:rL g f y:=by
  show (Nat.beq _ _&&(true&&Nat.ble _ _))=true
  rw [Nat.beq_refl,Nat.ble_eq_true_of_le (by omega)]
  rfl
 have h3:rK g f y:=fun h=>by rw [show (_:Bool)=true from h4] at h;cases h
 have h0:lZ g f pc q y:=⟨fun _=>⟨fun _=>⟨0,⟨trivial,trivial⟩,⟨rfl,rfl,⟨by simp,rfl⟩,⟨rfl,rfl,rfl⟩,⟨rfl,rfl⟩,⟨by simp,hl⟩,⟨by simp,hl⟩,⟨rfl,rfl⟩,trivial⟩,h2⟩,h3⟩,h3⟩
 have h1:rM g f pc q y:=⟨fun _=>⟨fun _=>⟨0,⟨trivial,trivial⟩,⟨rfl,rfl,⟨by simp,rfl⟩,⟨rfl,rfl,rfl⟩,⟨rfl,rfl⟩,⟨by simp,hl⟩,⟨by simp,hl⟩,⟨rfl,rfl⟩,trivial⟩,h2⟩,h3⟩,h3⟩
 exact ⟨⟨⟨h1,h1,h0⟩,⟨h1,h0⟩,h0⟩,⟨⟨h1,h0⟩,h0⟩,h0⟩
end
end Go.Ex
