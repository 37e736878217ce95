/-
 Contracts: names.
-/
import Derived.Test.YtdpabnfcfakjeaaLwSp
namespace Go.Ex
open Go Go.Proofs Go.RowKit
open Go.IntKind (i64 wrap)
open Int (ofNat toNat)
open List (length getD)
noncomputable section
set_option maxRecDepth 1000000
theorem BS {p:Nat->Bool} : ∀ {m i:Nat},i<m->p i=false->aH p m=false
 | m+1,i,h,hp=>by
  show (p m&&aH p m)=false
  by_cases e:i=m
  ·subst e;rw [hp];rfl
  ·rw [BS (show i<m by omega) hp,Bool.and_false]
theorem LL {p:Nat->Bool} {m:Nat} (h:aH p m=true) (hp:p m=true):aH p (m+1)=true:=by
 show (p m&&aH p m)=true
 rw [h,hp];rfl
def aeI (c:Int):Bool:=(decide (97<=c)&&decide (c<=122))||(decide (65<=c)&&decide (c<=90))
def abB (i:Nat)(c:Int):Bool:=aeI c||(!decide (i=0)&&(decide (c=45)||(decide (48<=c)&&decide (c<=57))))
def dL (l:List UInt8)(i:Nat):Bool:=abB i ((l.getD i 0).toNat:Nat)
def aM (l:List UInt8):Bool:=aH (dL l) l.length&&(decide (0<l.length)&&decide (l.length<=12))
theorem F7 (l:List UInt8)(i:Nat):dL l i=true↔((97<=(((l[i]?.getD 0).toNat:Nat):Int)/\(((l[i]?.getD 0).toNat:Nat):Int)<=122)∨(65<=(((l[i]?.getD 0).toNat:Nat):Int)/\(((l[i]?.getD 0).toNat:Nat):Int)<=90))∨(¬ i=0/\((((l[i]?.getD 0).toNat:Nat):Int)=45∨(48<=(((l[i]?.getD 0).toNat:Nat):Int)/\(((l[i]?.getD 0).toNat:Nat):Int)<=57))):=by
 simp [dL,abB,aeI]
theorem F8 {l:List UInt8} {i:Nat} (hi:i<l.length) (h : ¬ dL l i=true):aM l=false:=by
 rw [aM,BS hi (by simpa using h)]
 rfl
theorem PG {l:List UInt8} {i:Nat} (hl:l.length<=1000000000000000000) (hi:i<l.length) (ha:aH (dL l) i=true) (h:dL l i=true) : ∃ y2,((y2<=l.length/\aH (dL l) y2=true)/\l.length-y2<l.length-i)/\(y2:Int)=IntKind.i64.wrap ((i:Int)+1):=
 ⟨i+1,⟨⟨by omega,LL ha h⟩,by omega⟩,by rw [aO (by omega) (by omega)];rfl⟩
def LM:List PT:=[.one (.str)]
def fN:List FD->Bool
 | [.str s]=>Nat.ble s.length 1000
 | _=>false
def LN:List FD->List FD
 | [.str s]=>[.bool (aM s)]
 | _=>[]
def UB (s:List UInt8):Nat->bT:=fun i=>match i with | 2=>⟨Nat,fun _=>[{ι:=Nat,G:=fun x=>x<=s.length/\aH (dL s) x=true,μ:=fun x=>s.length-x,tl:=fun x=>[(0,.one (.ostr s)),(2,.one (.bool (.lit false))),(6,.one (.ostr s)),(7,.one (.int i64 (.tm (ofNat (length s))))),(8,.one (.int i64 (.tm (ofNat x))))],bl:=fun _=>[],nx:=(1:Nat)}]⟩ | _=>⟨Nat,fun _=>[]⟩
theorem VY:cT (mkR smE gs3) Try.prog η0 128 (FI.of Try.f128 true) LM (.one .bool) fN LN:=by
 refine aL GM dU Try.fok128 (fun fds=>match fds with | [.str s]=>UB s | _=>aW fun _=>[]) ?_
 intro fds hf hc;obtain ⟨s,ds0,rfl,hf1⟩:=hf.str;obtain rfl:=hf1.nil
 have hc:(Nat.ble s.length 1000)=true:=hc
 have hvc:(vcF smE gs3 (FI.of Try.f128 true) LM (.one .bool) (UB s) noR [.str s] (LN [.str s]))=
  (true=true/\ ∃y0:Nat,(∃y1:Nat,((y1<=length s/\aH (dL s) y1=true)/\True)/\(true=true/\s=s/\false=false/\s=s/\(i64=i64/\ofNat (length s)=ofNat (length s))/\(i64=i64/\ofNat y1=(0:Int))/\True)/\True)/\ ∀y1:Nat,y1<=length s/\aH (dL s) y1=true->(decide (ofNat y1<ofNat (length s))=true->((decide ((0:Int)<=ofNat y1)&&decide (ofNat y1<(↑(length s):Int)))=true->(decide (ofNat (UInt8.toNat (getD s (toNat (ofNat y1)) (0:UInt8)))<(97:Int))=true->(decide (ofNat (UInt8.toNat (getD s (toNat (ofNat y1)) (0:UInt8)))<(65:Int))=true->(decide (ofNat y1=(0:Int))=true->aM s=false)/\(decide (ofNat y1=(0:Int))=false->(decide (ofNat (UInt8.toNat (getD s (toNat (ofNat y1)) (0:UInt8)))=(45:Int))=true-> ∃y2:Nat,((y2<=length s/\aH (dL s) y2=true)/\length s-y2<length s-y1)/\(true=true/\s=s/\false=false/\s=s/\(i64=i64/\ofNat (length s)=ofNat (length s))/\(i64=i64/\ofNat y2=wrap i64 (ofNat y1+(1:Int)))/\True)/\True)/\(decide (ofNat (UInt8.toNat (getD s (toNat (ofNat y1)) (0:UInt8)))=(45:Int))=false->(decide (ofNat (UInt8.toNat (getD s (toNat (ofNat y1)) (0:UInt8)))<(48:Int))=true->aM s=false)/\(decide (ofNat (UInt8.toNat (getD s (toNat (ofNat y1)) (0:UInt8)))<(48:Int))=false->(decide ((57:Int)<ofNat (UInt8.toNat (getD s (toNat (ofNat y1)) (0:UInt8))))=true->aM s=false)/\(decide ((57:Int)<ofNat (UInt8.toNat (getD s (toNat (ofNat y1)) (0:UInt8))))=false-> ∃y2:Nat,((y2<=length s/\aH (dL s) y2=true)/\length s-y2<length s-y1)/\(true=true/\s=s/\false=false/\s=s/\(i64=i64/\ofNat (length s)=ofNat (length s))/\(i64=i64/\ofNat y2=wrap i64 (ofNat y1+(1:Int)))/\True)/\True)))))/\(decide (ofNat (UInt8.toNat (getD s (toNat (ofNat y1)) (0:UInt8)))<(65:Int))=false->(decide ((90:Int)<ofNat (UInt8.toNat (getD s (toNat (ofNat y1)) (0:UInt8))))=true->(decide (ofNat y1=(0:Int))=true->aM s=false)/\(decide (ofNat y1=(0:Int))=false->(decide (ofNat (UInt8.toNat (getD s (toNat (ofNat y1)) (0:UInt8)))=(45:Int))=true-> ∃y2:Nat,((y2<=length s/\aH (dL s) y2=true)/\length s-y2<length s-y1)/\(true=true/\s=s/\false=false/\s=s/\(i64=i64/\ofNat (length s)=ofNat (length s))/\(i64=i64/\ofNat y2=wrap i64 (ofNat y1+(1:Int)))/\True)/\True)/\(decide (ofNat (UInt8.toNat (getD s (toNat (ofNat y1)) (0:UInt8)))=(45:Int))=false->(decide (ofNat (UInt8.toNat (getD s (toNat (ofNat y1)) (0:UInt8)))<(48:Int))=true->aM s=false)/\(decide (ofNat (UInt8.toNat (getD s (toNat (ofNat y1)) (0:UInt8)))<(48:Int))=false->(decide ((57:Int)<ofNat (UInt8.toNat (getD s (toNat (ofNat y1)) (0:UInt8))))=true->aM s=false)/\(decide ((57:Int)<ofNat (UInt8.toNat (getD s (toNat (ofNat y1)) (0:UInt8))))=false-> ∃y2:Nat,((y2<=length s/\aH (dL s) y2=true)/\length s-y2<length s-y1)/\(true=true/\s=s/\false=false/\s=s/\(i64=i64/\ofNat (length s)=ofNat (length s))/\(i64=i64/\ofNat y2=wrap i64 (ofNat y1+(1:Int)))/\True)/\True)))))/\(decide ((90:Int)<ofNat (UInt8.toNat (getD s (toNat (ofNat y1)) (0:UInt8))))=false-> ∃y2:Nat,((y2<=length s/\aH (dL s) y2=true)/\length s-y2<length s-y1)/\(true=true/\s=s/\false=false/\s=s/\(i64=i64/\ofNat (length s)=ofNat (length s))/\(i64=i64/\ofNat y2=wrap i64 (ofNat y1+(1:Int)))/\True)/\True)))/\(decide (ofNat (UInt8.toNat (getD s (toNat (ofNat y1)) (0:UInt8)))<(97:Int))=false->(decide ((122:Int)<ofNat (UInt8.toNat (getD s (toNat (ofNat y1)) (0:UInt8))))=true->(decide (ofNat (UInt8.toNat (getD s (toNat (ofNat y1)) (0:UInt8)))<(65:Int))=true->(decide (ofNat y1=(0:Int))=true->aM s=false)/\(decide (ofNat y1=(0:Int))=false->(decide (ofNat (UInt8.toNat (getD s (toNat (ofNat y1)) (0:UInt8)))=(45:Int))=true-> ∃y2:Nat,((y2<=length s/\aH (dL s) y2=true)/\length s-y2<length s-y1)/\(true=true/\s=s/\false=false/\s=s/\(i64=i64/\ofNat (length s)=ofNat (length s))/\(i64=i64/\ofNat y2=wrap i64 (ofNat y1+(1:Int)))/\True)/\True)/\(decide (ofNat (UInt8.toNat (getD s (toNat (ofNat y1)) (0:UInt8)))=(45:Int))=false->(decide (ofNat (UInt8.toNat (getD s (toNat (ofNat y1)) (0:UInt8)))<(48:Int))=true->aM s=false)/\(decide (ofNat (UInt8.toNat (getD s (toNat (ofNat y1)) (0:UInt8)))<(48:Int))=false->(decide ((57:Int)<ofNat (UInt8.toNat (getD s (toNat (ofNat y1)) (0:UInt8))))=true->aM s=false)/\(decide ((57:Int)<ofNat (UInt8.toNat (getD s (toNat (ofNat y1)) (0:UInt8))))=false-> ∃y2:Nat,((y2<=length s/\aH (dL s) y2=true)/\length s-y2<length s-y1)/\(true=true/\s=s/\false=false/\s=s/\(i64=i64/\ofNat (length s)=ofNat (length s))/\(i64=i64/\ofNat y2=wrap i64 (ofNat y1+(1:Int)))/\True)/\True)))))/\(decide (ofNat (UInt8.toNat (getD s (toNat (ofNat y1)) (0:UInt8)))<(65:Int))=false->(decide ((90:Int)<ofNat (UInt8.toNat (getD s (toNat (ofNat y1)) (0:UInt8))))=true->(decide (ofNat y1=(0:Int))=true->aM s=false)/\(decide (ofNat y1=(0:Int))=false->(decide (ofNat (UInt8.toNat (getD s (toNat (ofNat y1)) (0:UInt8)))=(45:Int))=true-> ∃y2:Nat,((y2<=length s/\aH (dL s) y2=true)/\length s-y2<length s-y1)/\(true=true/\s=s/\false=false/\s=s/\(i64=i64/\ofNat (length s)=ofNat (length s))/\(i64=i64/\ofNat y2=wrap i64 (ofNat y1+(1:Int)))/\True)/\True)/\(decide (ofNat (UInt8.toNat (getD s (toNat (ofNat y1)) (0:UInt8)))=(45:Int))=false->(decide (ofNat (UInt8.toNat (getD s (toNat (ofNat y1)) (0:UInt8)))<(48:Int))=true->aM s=false)/\(decide (ofNat (UInt8.toNat (getD s (toNat (ofNat y1)) (0:UInt8)))<(48:Int))=false->(decide ((57:Int)<ofNat (UInt8.toNat (getD s (toNat (ofNat y1)) (0:UInt8))))=true->aM s=false)/\(decide ((57:Int)<ofNat (UInt8.toNat (getD s (toNat (ofNat y1)) (0:UInt8))))=false-> ∃y2:Nat,((y2<=length s/\aH (dL s) y2=true)/\length s-y2<length s-y1)/\(true=true/\s=s/\false=false/\s=s/\(i64=i64/\ofNat (length s)=ofNat (length s))/\(i64=i64/\ofNat y2=wrap i64 (ofNat y1+(1:Int)))/\True)/\True)))))/\(decide ((90:Int)<ofNat (UInt8.toNat (getD s (toNat (ofNat y1)) (0:UInt8))))=false-> ∃y2:Nat,((y2<=length s/\aH (dL s) y2=true)/\length s-y2<length s-y1)/\(true=true/\s=s/\false=false/\s=s/\(i64=i64/\ofNat (length s)=ofNat (length s))/\(i64=i64/\ofNat y2=wrap i64 (ofNat y1+(1:Int)))/\True)/\True)))/\(decide ((122:Int)<ofNat (UInt8.toNat (getD s (toNat (ofNat y1)) (0:UInt8))))=false-> ∃y2:Nat,((y2<=length s/\aH (dL s) y2=true)/\length s-y2<length s-y1)/\(true=true/\s=s/\false=false/\s=s/\(i64=i64/\ofNat (length s)=ofNat (length s))/\(i64=i64/\ofNat y2=wrap i64 (ofNat y1+(1:Int)))/\True)/\True)))/\((decide ((0:Int)<=ofNat y1)&&decide (ofNat y1<(↑(length s):Int)))=false->False))/\(decide (ofNat y1<ofNat (length s))=false->((! (aA s (Array.toList (ByteArray.data {data:= #[]}))))=true->aM s=(! (decide ((12:Int)<ofNat (length s)))))/\((! (aA s (Array.toList (ByteArray.data {data:= #[]}))))=false->aM s=false))):=by kernel_rfl
 refine hvc.mpr ?_;clear hvc
 have hl:=Nat.le_of_ble_eq_true hc
 simp;refine ⟨rfl,fun y hy ha=>⟨fun hlt=>⟨?_,hlt⟩,fun hge => ?_⟩⟩
 ·have h1:=fun h=>F8 hlt h
  have h2:=fun h=>PG (by omega) hlt ha h
  rw [F7] at h1 h2
  generalize (((s[y]?.getD 0).toNat:Nat):Int)=c at h1 h2 ⊢
  generalize (∃ y2:Nat,_)=B at h2 ⊢
  generalize aM s=d at h1 ⊢
  intro _
  repeat' first | (refine And.intro ?_ ?_) | intro _
  all_goals first | exact h1 (by omega) | exact h2 (by omega)
 ·obtain rfl:y=s.length:=by omega
  rw [aM,ha,Bool.true_and]
  cases s with
  | nil=>simp [aA]
  | cons a l=>
   simp [aA]
   by_cases e:l.length<=11
   ·rw [decide_eq_true e,decide_eq_false (by omega)];rfl
   ·rw [decide_eq_false e,decide_eq_true (by omega)];rfl
def LO:List PT:=[.one (.str)]
def fA:List FD->Bool
 | [.str s]=>Nat.ble s.length s.length
 | _=>false
def LP:List FD->List FD
 | [.str s]=>[.bool (aM s)]
 | _=>[]
def UC (s:List UInt8):Nat->bT:=fun i=>match i with | 4=>⟨Nat,fun _=>[{ι:=Nat,G:=fun x=>x<=s.length/\aH (dL s) x=true,μ:=fun x=>s.length-x,tl:=fun x=>[(0,.one (.ostr s)),(2,.one (.bool (.lit false))),(3,.one (.int i64 (.tm (ofNat x)))),(6,.one (.ostr s)),(7,.one (.int i64 (.tm (ofNat (length s))))),(8,.one (.bool (.at_ false (.tm (decide (ofNat (length s)<(1:Int))))))),(9,.one (.bool (.lit false))),(10,.one (.ostr s)),(11,.one (.int i64 (.tm (ofNat (length s))))),(12,.one (.bool (.at_ false (.tm (decide ((12:Int)<ofNat (length s))))))),(13,.one (.bool (.lit false)))],bl:=fun _=>[],nx:=(1:Nat)}]⟩ | _=>⟨Nat,fun _=>[]⟩
abbrev F9 (s:List UInt8):Prop:=s=s/\(i64=i64/\ofNat (length s)=ofNat (length s))/\decide (ofNat (length s)<(1:Int))=decide (ofNat (length s)<(1:Int))/\false=false/\s=s/\(i64=i64/\ofNat (length s)=ofNat (length s))/\decide ((12:Int)<ofNat (length s))=decide ((12:Int)<ofNat (length s))/\false=false/\True
abbrev rF (s:List UInt8)(y1:Nat):Prop := ∃y2:Nat,((y2<=length s/\aH (dL s) y2=true)/\length s-y2<length s-y1)/\(true=true/\s=s/\false=false/\(i64=i64/\ofNat y2=wrap i64 (ofNat y1+(1:Int)))/\F9 s)/\True
abbrev GA (s:List UInt8)(y1:Nat):Prop:=(decide (ofNat y1=(0:Int))=true->aM s=false)/\(decide (ofNat y1=(0:Int))=false->(decide (ofNat (UInt8.toNat (getD s (toNat (ofNat y1)) (0:UInt8)))=(45:Int))=true->rF s y1)/\(decide (ofNat (UInt8.toNat (getD s (toNat (ofNat y1)) (0:UInt8)))=(45:Int))=false->(decide (ofNat (UInt8.toNat (getD s (toNat (ofNat y1)) (0:UInt8)))<(48:Int))=true->aM s=false)/\(decide (ofNat (UInt8.toNat (getD s (toNat (ofNat y1)) (0:UInt8)))<(48:Int))=false->(decide ((57:Int)<ofNat (UInt8.toNat (getD s (toNat (ofNat y1)) (0:UInt8))))=true->aM s=false)/\(decide ((57:Int)<ofNat (UInt8.toNat (getD s (toNat (ofNat y1)) (0:UInt8))))=false->rF s y1))))
abbrev GB (s:List UInt8)(y1:Nat):Prop:=(decide (ofNat (UInt8.toNat (getD s (toNat (ofNat y1)) (0:UInt8)))<(65:Int))=true->GA s y1)/\(decide (ofNat (UInt8.toNat (getD s (toNat (ofNat y1)) (0:UInt8)))<(65:Int))=false->(decide ((90:Int)<ofNat (UInt8.toNat (getD s (toNat (ofNat y1)) (0:UInt8))))=true->GA s y1)/\(decide ((90:Int)<ofNat (UInt8.toNat (getD s (toNat (ofNat y1)) (0:UInt8))))=false->rF s y1))
theorem VZ:cT (mkR smE gs3) Try.prog η0 83 (FI.of Try.f83 true) LO (.one .bool) fA LP:=by
 refine aL GM dU Try.fok83 (fun fds=>match fds with | [.str s]=>UC s | _=>aW fun _=>[]) ?_
 intro fds hf hc;obtain ⟨s,ds0,rfl,hf1⟩:=hf.str;obtain rfl:=hf1.nil
 have hc:(Nat.ble s.length s.length)=true:=hc
 have hvc:(vcF smE gs3 (FI.of Try.f83 true) LO (.one .bool) (UC s) noR [.str s] (LP [.str s]))=
  (true=true/\(decide (ofNat (length s)<(1:Int))=true->aM s=false)/\(decide (ofNat (length s)<(1:Int))=false->(decide ((12:Int)<ofNat (length s))=true->aM s=false)/\(decide ((12:Int)<ofNat (length s))=false-> ∃y0:Nat,(∃y1:Nat,((y1<=length s/\aH (dL s) y1=true)/\True)/\(true=true/\s=s/\false=false/\(i64=i64/\ofNat y1=(0:Int))/\F9 s)/\True)/\ ∀y1:Nat,y1<=length s/\aH (dL s) y1=true->(decide (ofNat y1<ofNat (length s))=true->((decide ((0:Int)<=ofNat y1)&&decide (ofNat y1<(↑(length s):Int)))=true->(decide (ofNat (UInt8.toNat (getD s (toNat (ofNat y1)) (0:UInt8)))<(97:Int))=true->GB s y1)/\(decide (ofNat (UInt8.toNat (getD s (toNat (ofNat y1)) (0:UInt8)))<(97:Int))=false->(decide ((122:Int)<ofNat (UInt8.toNat (getD s (toNat (ofNat y1)) (0:UInt8))))=true->GB s y1)/\(decide ((122:Int)<ofNat (UInt8.toNat (getD s (toNat (ofNat y1)) (0:UInt8))))=false->rF s y1)))/\((decide ((0:Int)<=ofNat y1)&&decide (ofNat y1<(↑(length s):Int)))=false->False))/\(decide (ofNat y1<ofNat (length s))=false->aM s=true)))):=by kernel_rfl
 refine hvc.mpr ?_;clear hvc;dsimp only [F9,rF,GA,GB]
 have hl:=Nat.le_of_ble_eq_true hc
 simp;refine ⟨fun h=>by simp [aM];omega,fun h=>⟨fun h'=>by simp [aM];omega,fun h' => ?_⟩⟩
 refine ⟨rfl,fun y hy ha=>⟨fun hlt=>⟨?_,hlt⟩,fun hge => ?_⟩⟩
 ·have h1:=fun h=>F8 hlt h
  have h2:=fun h=>PG (by omega) hlt ha h
  rw [F7] at h1 h2
  generalize (((s[y]?.getD 0).toNat:Nat):Int)=c at h1 h2 ⊢
  generalize (∃ y2:Nat,_)=B at h2 ⊢
  generalize aM s=d at h1 ⊢
  intro _
  repeat' first | (refine And.intro ?_ ?_) | intro _
  all_goals first | exact h1 (by omega) | exact h2 (by omega)
 ·obtain rfl:y=s.length:=by omega
  rw [aM,ha];simp;omega
end
end Go.Ex
