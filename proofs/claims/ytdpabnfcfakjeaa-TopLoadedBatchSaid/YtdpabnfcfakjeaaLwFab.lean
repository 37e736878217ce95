/-
 Contracts of small functions of the rack.
-/
import Derived.Test.YtdpabnfcfakjeaaExK
import Derived.RangeFuncNested
import Derived.RangeFuncBound
import Derived.RangeFuncCalls
import Derived.RangeFuncLeaves
import Derived.Shelf.Abstract
import Derived.Shelf.RegionOpen
import Derived.WalkKit
import Derived.OwnWalkIn
import Derived.TacticsInMore
import Derived.LoopNIn
import Derived.LoopIn
namespace Go.Ex
open Go Go.Proofs Go.RowKit
open Go.IntKind (i64 wrap)
open Int (ofNat)
open Prod (snd)
noncomputable section
theorem aO {n:Int} (h1 : -9223372036854775808<=n) (h2:n<=9223372036854775807):IntKind.i64.wrap n=n:=by
 have:=pF n
 unfold wr at this;rw [this];omega
def OG (f g:Nat->Nat->FD):Nat->Int
 | 0=>0
 | x+1=>IntKind.i64.wrap (OG f g x+IntKind.i64.wrap ((f x 0).i*(g x 0).i))
def OH (f:Nat->Nat->FD):Nat->Int
 | 0=>0
 | x+1=>IntKind.i64.wrap (OH f x+(f x 0).i)
def KR:List PT:=[.one (.int .i64),.one (.int .i64),.one (.int .i64)]
def TV:List FD->Bool
 | [.int _ _,.int _ _,.int _ _]=>true
 | _=>false
def KS:List FD->List FD
 | [.int _ a,.int _ b,.int _ c]=>[.bool (decide (b<=a)&&decide (a<=c))]
 | _=>[]
def TW (_a _b _c:Int):Nat->bT:=aW (fun _=>[])
theorem VP:cT (mkR sm0 gs0) Try.prog η0 88 (FI.of Try.f88 true) KR (.one .bool) TV KS:=by
 refine aL e7 dQ Try.fok88 (fun fds=>match fds with | [.int _ a,.int _ b,.int _ c]=>TW a b c | _=>aW fun _=>[]) ?_
 intro fds hf hc;obtain ⟨a,ds0,rfl,hf1⟩:=hf.int;obtain ⟨b,ds1,rfl,hf2⟩:=hf1.int;obtain ⟨c,ds2,rfl,hf3⟩:=hf2.int;obtain rfl:=hf3.nil
 have hc:(true)=true:=hc
 have hvc:(vcF sm0 gs0 (FI.of Try.f88 true) KR (.one .bool) (TW a b c) noR [.int .i64 a,.int .i64 b,.int .i64 c] (KS [.int .i64 a,.int .i64 b,.int .i64 c]))=
  (true=true/\(decide (a<b)=true->(decide (b<=a)&&decide (a<=c))=false)/\(decide (a<b)=false->(decide (b<=a)&&decide (a<=c))=(! (decide (c<a))))):=by kernel_rfl
 refine hvc.mpr ?_;clear hvc;clear hf hf1 hf2 hf3;simp;exact ⟨by omega,fun h=>by rw [decide_eq_true h];simp [←decide_not]⟩
def ac8:List PT:=[.one (.list [.int .i64]),.one (.list [.int .i64])]
def aeB:List FD->Bool
 | [.list _ na _,.list _ nb _]=>Nat.ble na nb
 | _=>false
def ac9:List FD->List FD
 | [.list _ na fa,.list _ _ fb]=>[.int .i64 (OG fa fb na)]
 | _=>[]
def aeC (na:Nat)(fa:Nat->Nat->FD)(nb:Nat)(fb:Nat->Nat->FD):Nat->bT:=aW (fun _=>[{ι:=Nat,G:=fun x=>x<=na,μ:=fun x=>na-x,tl:=fun x=>[(1,.one (.fz (.root 0 1) (.list [.int .i64] nb fb))),(5,.one (.int .i64 (.tm (OG fa fb x)))),(8,.one (.fz (.root 0 0) (.list [.int .i64] na fa))),(9,.one (.int .i64 (.tm (ofNat na)))),(10,.one (.int .i64 (.tm (ofNat x))))],bl:=fun _=>[],nx:=1}])
theorem ada:cT (mkR sm0 gs0) Try.prog η0 120 (FI.of Try.f120 true) ac8 (.one (.int .i64)) aeB ac9:=by
 refine aL e7 dQ Try.fok120 (fun fds=>match fds with | [.list _ na fa,.list _ nb fb]=>aeC na fa nb fb | _=>aW fun _=>[]) ?_
 intro fds hf hc;obtain ⟨na,fa,ds0,rfl,ga,hf1⟩:=hf.list;obtain ⟨nb,fb,ds1,rfl,gb,hf2⟩:=hf1.list;obtain rfl:=hf2.nil
 have hc:(Nat.ble na nb)=true:=hc
 have hvc:(vcF sm0 gs0 (FI.of Try.f120 true) ac8 (.one (.int .i64)) (aeC na fa nb fb) noR [.list [.int .i64] na fa,.list [.int .i64] nb fb] (ac9 [.list [.int .i64] na fa,.list [.int .i64] nb fb]))=
  (true=true/\ ∃y0:Nat,(∃y1:Nat,(y1<=na/\True)/\(true=true/\(Ref.root 0 1=Ref.root 0 1/\FD.list [Sh.int i64] nb fb=FD.list [Sh.int i64] nb fb/\true=true)/\(i64=i64/\OG fa fb y1=(0:Int))/\(Ref.root 0 0=Ref.root 0 0/\FD.list [Sh.int i64] na fa=FD.list [Sh.int i64] na fa/\true=true)/\(i64=i64/\ofNat na=ofNat na)/\(i64=i64/\ofNat y1=(0:Int))/\True)/\True)/\ ∀y1:Nat,y1<=na->(decide (ofNat y1<ofNat na)=true->((decide ((0:Int)<=ofNat y1)&&decide (ofNat y1<(↑na:Int)))=true->((decide ((0:Int)<=ofNat y1)&&decide (ofNat y1<(↑nb:Int)))=true-> ∃y2:Nat,(y2<=na/\na-y2<na-y1)/\(true=true/\(Ref.root 0 1=Ref.root 0 1/\FD.list [Sh.int i64] nb fb=FD.list [Sh.int i64] nb fb/\true=true)/\(i64=i64/\OG fa fb y2=wrap i64 (OG fa fb y1+wrap i64 (FD.i (fa (Int.toNat (ofNat y1)) (0:Nat))*FD.i (fb (Int.toNat (ofNat y1)) (0:Nat)))))/\(Ref.root 0 0=Ref.root 0 0/\FD.list [Sh.int i64] na fa=FD.list [Sh.int i64] na fa/\true=true)/\(i64=i64/\ofNat na=ofNat na)/\(i64=i64/\ofNat y2=wrap i64 (ofNat y1+(1:Int)))/\True)/\True)/\((decide ((0:Int)<=ofNat y1)&&decide (ofNat y1<(↑nb:Int)))=false->False))/\((decide ((0:Int)<=ofNat y1)&&decide (ofNat y1<(↑na:Int)))=false->False))/\(decide (ofNat y1<ofNat na)=false->i64=i64/\OG fa fb na=OG fa fb y1)):=by kernel_rfl
 refine hvc.mpr ?_;clear hvc
 have hc:=Nat.le_of_ble_eq_true hc
 have hl:=ga.len
 have hl':maxLen=9223372036854775807:=rfl
 simp;refine ⟨rfl,fun x hx=>⟨fun h=>⟨fun _=>⟨fun _=>⟨x+1,⟨by omega,by omega⟩,rfl,?_⟩,by omega⟩,h⟩,fun h=>by rw [show x=na by omega]⟩⟩
 rw [aO (by omega) (by omega)];rfl
def bA (n:Int):Int:=IntKind.i64.wrap n
theorem TX (a:Int) {b:Int} (h:b≠0):(a.tmod b).natAbs<b.natAbs:=by
 rw [Int.natAbs_tmod];exact Nat.mod_lt _ (by omega)
def RD:Nat->Int->Int->Int
 | 0,a,_=>a
 | n+1,a,b=>if b=0 then a else RD n b (a.tmod b)
theorem IL : ∀ (n m:Nat) (a b:Int),b.natAbs<n->b.natAbs<m->RD n a b=RD m a b
 | n+1,m+1,a,b,h1,h2=>by
  simp only [RD];split
  ·rfl
  ·rename_i hb
   have:=TX a hb
   exact IL n m b (a.tmod b) (by omega) (by omega)
 | 0,_,_,_,h,_=>by omega
 | _,0,_,_,_,h=>by omega
def aU (a b:Int):Int:=RD (b.natAbs+1) a b
theorem yZ (a:Int):aU a 0=a:=rfl
theorem zA (a:Int) {b:Int} (h:b≠0):aU a b=aU b (a.tmod b):=by
 show RD (b.natAbs+1) a b=_
 simp only [RD,h,if_false]
 have:=TX a h
 exact IL _ _ _ _ this (by omega)
def EM:List PT:=[.one (.int .i64),.one (.int .i64)]
def OI:List FD->Bool
 | [.int _ _,.int _ _]=>true
 | _=>false
def EN:List FD->List FD
 | [.int _ a,.int _ b]=>[.int .i64 (aU a b)]
 | _=>[]
def OJ (a b:Int):Nat->bT:=aW (fun _=>[{ι:=Int × Int,G:=fun x=>aU x.1 x.2=aU a b,μ:=fun x=>x.2.natAbs,tl:=fun x=>[(0,.one (.int i64 (.tm x.1))),(1,.one (.int i64 (.tm x.2)))],bl:=fun _=>[],nx:=1}])
theorem RE:cT (mkR sm0 gs0) Try.prog η0 91 (FI.of Try.f91 true) EM (.one (.int .i64)) OI EN:=by
 refine aL e7 dQ Try.fok91 (fun fds=>match fds with | [.int _ a,.int _ b]=>OJ a b | _=>aW fun _=>[]) ?_
 intro fds hf hc;obtain ⟨a,ds0,rfl,hf1⟩:=hf.int;obtain ⟨b,ds1,rfl,hf2⟩:=hf1.int;obtain rfl:=hf2.nil
 have hc:(true)=true:=hc
 have hvc:(vcF sm0 gs0 (FI.of Try.f91 true) EM (.one (.int .i64)) (OJ a b) noR [.int .i64 a,.int .i64 b] (EN [.int .i64 a,.int .i64 b]))=
  (true=true/\ ∃y0:Nat,(∃y1:Int×Int,(aU (Prod.fst y1) (snd y1)=aU a b/\True)/\(true=true/\(i64=i64/\Prod.fst y1=a)/\(i64=i64/\snd y1=b)/\True)/\True)/\ ∀y1:Int×Int,aU (Prod.fst y1) (snd y1)=aU a b->(decide (snd y1=(0:Int))=false->((! (decide (snd y1=(0:Int))))=true-> ∃y2:Int×Int,(aU (Prod.fst y2) (snd y2)=aU a b/\Int.natAbs (snd y2)<Int.natAbs (snd y1))/\(true=true/\(i64=i64/\Prod.fst y2=snd y1)/\(i64=i64/\snd y2=Int.tmod (Prod.fst y1) (snd y1))/\True)/\True)/\((! (decide (snd y1=(0:Int))))=false->False))/\(decide (snd y1=(0:Int))=true->i64=i64/\aU a b=Prod.fst y1)):=by kernel_rfl
 refine hvc.mpr ?_;clear hvc;clear hf hf1 hf2;simp;intro x y hg;refine ⟨fun h=>⟨fun _=>⟨by rw [←zA x h];exact hg,Nat.mod_lt _ (by omega)⟩,h⟩,fun h => ?_⟩
 subst h;rw [←hg,yZ]
def RF:List PT:=[.one (.list [.int .i64])]
def YM:List FD->Bool
 | [.list _ _ _]=>true
 | _=>false
def RG:List FD->List FD
 | [.list _ na fa]=>[.int .i64 (OH fa na)]
 | _=>[]
def YN (na:Nat)(fa:Nat->Nat->FD):Nat->bT:=aW (fun _=>[{ι:=Nat,G:=fun x=>x<=na,μ:=fun x=>na-x,tl:=fun x=>[(3,.one (.int i64 (.tm (OH fa x)))),(6,.one (.fz (.root (0:Nat) (0:Nat)) (FD.list [Sh.int i64] na fa))),(7,.one (.int i64 (.tm (ofNat na)))),(8,.one (.int i64 (.tm (ofNat x))))],bl:=fun _=>[],nx:=1}])
theorem YO:cT (mkR sm0 gs0) Try.prog η0 121 (FI.of Try.f121 true) RF (.one (.int .i64)) YM RG:=by
 refine aL e7 dQ Try.fok121 (fun fds=>match fds with | [.list _ na fa]=>YN na fa | _=>aW fun _=>[]) ?_
 intro fds hf hc;obtain ⟨na,fa,ds0,rfl,ga,hf1⟩:=hf.list;obtain rfl:=hf1.nil
 have hc:(true)=true:=hc
 have hvc:(vcF sm0 gs0 (FI.of Try.f121 true) RF (.one (.int .i64)) (YN na fa) noR [.list [.int .i64] na fa] (RG [.list [.int .i64] na fa]))=
  (true=true/\ ∃y0:Nat,(∃y1:Nat,(y1<=na/\True)/\(true=true/\(i64=i64/\OH fa y1=(0:Int))/\(Ref.root 0 0=Ref.root 0 0/\FD.list [Sh.int i64] na fa=FD.list [Sh.int i64] na fa/\true=true)/\(i64=i64/\ofNat na=ofNat na)/\(i64=i64/\ofNat y1=(0:Int))/\True)/\True)/\ ∀y1:Nat,y1<=na->(decide (ofNat y1<ofNat na)=true->((decide ((0:Int)<=ofNat y1)&&decide (ofNat y1<(↑na:Int)))=true-> ∃y2:Nat,(y2<=na/\na-y2<na-y1)/\(true=true/\(i64=i64/\OH fa y2=wrap i64 (OH fa y1+FD.i (fa (Int.toNat (ofNat y1)) (0:Nat))))/\(Ref.root 0 0=Ref.root 0 0/\FD.list [Sh.int i64] na fa=FD.list [Sh.int i64] na fa/\true=true)/\(i64=i64/\ofNat na=ofNat na)/\(i64=i64/\ofNat y2=wrap i64 (ofNat y1+(1:Int)))/\True)/\True)/\((decide ((0:Int)<=ofNat y1)&&decide (ofNat y1<(↑na:Int)))=false->False))/\(decide (ofNat y1<ofNat na)=false->i64=i64/\OH fa na=OH fa y1)):=by kernel_rfl
 refine hvc.mpr ?_;clear hvc
 have hl:=ga.len
 have hl':maxLen=9223372036854775807:=rfl
 simp;refine ⟨rfl,fun x hx=>⟨fun h=>⟨fun _=>⟨x+1,⟨by omega,by omega⟩,rfl,?_⟩,h⟩,fun h=>by rw [show x=na by omega]⟩⟩
 rw [aO (by omega) (by omega)];rfl
def atS:List PT:=[.agg [.int .i64,.int .i64,.int .i64,.int .i64,.int .i64,.int .i64],.one (.int .i64)]
def atC:List FD->Bool
 | [.int _ st,.int _ pl,.int _ ho,.int _ _,.int _ _,.int _ _,.int _ _] => !decide (pl=0)&&(!decide (st=0) && !decide (ho=0))
 | _=>false
def atR:List FD->List FD
 | [.int _ st,.int _ pl,.int _ ho,.int _ ge,.int _ p,.int _ h,.int _ s]=>[.int .i64 (Int.tmod (bA (s+bA (p*bA (st.tdiv pl)))) st),.int .i64 (Int.tmod (bA (h+bA (ge*s))) ho)]
 | _=>[]
def atI (_st _pl _ho _ge _p _h _s:Int):Nat->bT:=aW (fun _=>[])
theorem abu:cT (mkR sm0 gs0) Try.prog η0 115 (FI.of Try.f115 true) atS (.tup [.one (.int .i64),.one (.int .i64)]) atC atR:=by
 refine aL e7 dQ Try.fok115 (fun fds=>match fds with | [.int _ st,.int _ pl,.int _ ho,.int _ ge,.int _ p,.int _ h,.int _ s]=>atI st pl ho ge p h s | _=>aW fun _=>[]) ?_
 intro fds hf hc;obtain ⟨st,ds0,rfl,hf1⟩:=hf.int;obtain ⟨pl,ds1,rfl,hf2⟩:=hf1.int;obtain ⟨ho,ds2,rfl,hf3⟩:=hf2.int;obtain ⟨ge,ds3,rfl,hf4⟩:=hf3.int;obtain ⟨p,ds4,rfl,hf5⟩:=hf4.int;obtain ⟨h,ds5,rfl,hf6⟩:=hf5.int;obtain ⟨s,ds6,rfl,hf7⟩:=hf6.int;obtain rfl:=hf7.nil
 have hc:(!decide (pl=0)&&(!decide (st=0) && !decide (ho=0)))=true:=hc
 have hvc:(vcF sm0 gs0 (FI.of Try.f115 true) atS (.tup [.one (.int .i64),.one (.int .i64)]) (atI st pl ho ge p h s) noR [.int .i64 st,.int .i64 pl,.int .i64 ho,.int .i64 ge,.int .i64 p,.int .i64 h,.int .i64 s] (atR [.int .i64 st,.int .i64 pl,.int .i64 ho,.int .i64 ge,.int .i64 p,.int .i64 h,.int .i64 s]))=
  (true=true/\((! (decide (pl=(0:Int))))=true->((! (decide (st=(0:Int))))=true->((! (decide (ho=(0:Int))))=true->(i64=i64/\Int.tmod (bA (s+bA (p*bA (Int.tdiv st pl)))) st=Int.tmod (wrap i64 (s+wrap i64 (p*wrap i64 (Int.tdiv st pl)))) st)/\(i64=i64/\Int.tmod (bA (h+bA (ge*s))) ho=Int.tmod (wrap i64 (h+wrap i64 (ge*s))) ho)/\True)/\((! (decide (ho=(0:Int))))=false->False))/\((! (decide (st=(0:Int))))=false->False))/\((! (decide (pl=(0:Int))))=false->False)):=by kernel_rfl
 refine hvc.mpr ?_;clear hvc;simp only [Bool.and_eq_true,Bool.not_eq_true',decide_eq_false_iff_not] at hc;simp [hc];exact ⟨rfl,rfl⟩
end
end Go.Ex
namespace Go.Ex
open Go Go.Proofs Go.RowKit Go.Shelf
open Go.IntKind (i64 wrap)
open Int (ofNat)
open Prod (snd)
attribute [local go_sem] Oper.semAt_some
noncomputable section
def aeD:Emb:=⟨fun _=>none,fun _ _=>none,fun _ _=>none,fun _=>none,⟨[],fun _ _=>none⟩,fun _ _=>none⟩
theorem aaV (w:World):ZW aeD w:=fun _ _ _ h=>by cases h
theorem OK {f:FuncId} {fi:FI} (hF:FI.Ok Try.prog f fi) {ags:Array Value} {w:World} {v:Value} (h:AG Try.prog f ags w v):Calls Try.prog f ags w fun e w'=>e = .returned v/\Below w.heap.size w w':=by
 rcases h with h | ⟨_,h⟩
 ·rw [bU hF] at h;cases h
 ·exact h
theorem YP (st pl ho ge p h s:Int)(h1:pl≠0)(h2:st≠0)(h3:ho≠0)(w:World):Calls Try.prog 115 #[.agg #[.int .i64 st,.int .i64 pl,.int .i64 ho,.int .i64 ge,.int .i64 p,.int .i64 h],.int .i64 s] w fun e w'=>
  e = .returned (.tuple #[.int .i64 (Int.tmod (bA (s+bA (p*bA (st.tdiv pl)))) st),.int .i64 (Int.tmod (bA (h+bA (ge*s))) ho)])/\Below w.heap.size w w':=by
 have hs:=aV e7 dQ abu rfl [.agg [.int .i64 (.tm st),.int .i64 (.tm pl),.int .i64 (.tm ho),.int .i64 (.tm ge),.int .i64 (.tm p),.int .i64 (.tm h)],.one (.int .i64 (.tm s))] []
  (nP (.tup [.one (.int .i64),.one (.int .i64)]) [.int .i64 (Int.tmod (bA (s+bA (p*bA (st.tdiv pl)))) st),.int .i64 (Int.tmod (bA (h+bA (ge*s))) ho)]) [] ?_ (fun x hx=>by cases hx)
 ·obtain ⟨v,e1,e2⟩:=hs.2 aeD [.agg #[.int .i64 st,.int .i64 pl,.int .i64 ho,.int .i64 ge,.int .i64 p,.int .i64 h],.int .i64 s] w (aaV w) rfl
  cases e1
  exact OK Try.fok115 e2
 ·show aB.at_ η0 (chk (!decide (pl=0)&&(!decide (st=0) && !decide (ho=0))) _)=_
  simp only [chk,aB.at_,fK.den,h1,h2,h3,decide_false,Bool.not_false,Bool.and_self,if_true];rfl
theorem kW {k:Nat} (h:k<=9223372036854775807):bA (k:Int)=k:=aO (by omega) (by omega)
theorem aaW (st pl ho ge p h s:Nat)(hpl:0<pl)(b1:st<=1000)(b2:p<=1000)(b3:h<=1000)(b4:ge<=1000)(b5:s<=1000000000000):
  Int.tmod (bA ((s:Int)+bA ((p:Int)*bA ((st:Int).tdiv pl)))) st=(((s+p*(st / pl))%st:Nat):Int)/\Int.tmod (bA ((h:Int)+bA ((ge:Int)*s))) ho=(((h+ge*s)%ho:Nat):Int):=by
 have e1:(st:Int).tdiv pl=((st / pl:Nat):Int):=by rw [Int.tdiv_eq_ediv_of_nonneg (by omega)];exact (Int.natCast_ediv st pl).symm
 have h1:st / pl<=1000:=Nat.le_trans (Nat.div_le_self _ _) b1
 have h2:p*(st / pl)<=1000*1000:=Nat.mul_le_mul b2 h1
 have h3:ge*s<=1000*1000000000000:=Nat.mul_le_mul b4 b5
 rw [e1,kW (by omega)]
 rw [show (p:Int)*((st / pl:Nat):Int)=((p*(st / pl):Nat):Int) by rw [Int.natCast_mul],show (ge:Int)*(s:Int)=((ge*s:Nat):Int) by rw [Int.natCast_mul]]
 rw [kW (by omega),kW (by omega)]
 rw [show (s:Int)+((p*(st / pl):Nat):Int)=((s+p*(st / pl):Nat):Int) by omega,show (h:Int)+((ge*s:Nat):Int)=((h+ge*s:Nat):Int) by omega]
 rw [kW (by omega),kW (by omega)]
 rw [Int.tmod_eq_emod_of_nonneg (by omega),Int.tmod_eq_emod_of_nonneg (by omega)]
 exact ⟨(Int.natCast_emod _ _).symm,(Int.natCast_emod _ _).symm⟩
def EO (st pl ho ge p h:Nat):List Value:=[.int .i64 (st:Int),.int .i64 (pl:Int),.int .i64 (ho:Int),.int .i64 (ge:Int),.int .i64 (p:Int),.int .i64 (h:Int)]
def gZ (st pl ge p h n:Nat):List (Nat × Nat):=(List.range n).map fun s=>(s+p*(st / pl),h+ge*s)
def aeE:Value->Nat
 | .int _ n=>n.toNat
 | _=>0
theorem kC (st pl ho ge p h n:Nat)(hst:0<st)(hpl:0<pl)(hho:0<ho)(b1:st<=1000)(b2:p<=1000)(b3:h<=1000)(b4:ge<=1000)(b5:n<=1000000000000):
  Q9 Try.prog 142 [[.int .i64 (n:Int)],EO st pl ho ge p h] (fun x:Nat × Nat=>[.int .i64 ((x.1%st:Nat):Int),.int .i64 ((x.2%ho:Nat):Int)]) (gZ st pl ge p h n):=by
 refine ⟨fun ags w=>bU Try.fok142 ags w,fun Bs W0 N hN hBl hCH l J Jx W hb hJ hJx hY h0 => ?_⟩
 match Bs,hBl with
 | [c1,c2],_=>
  have hcell : ∀ (i B:Nat) (vs:List Value) (o:Nat) (v:Value),[c1,c2][i]? = some B->[[Value.int .i64 (n:Int)],EO st pl ho ge p h][i]? = some vs->vs[o]? = some v->W.cell? ⟨B,o,none⟩=some v:=fun i B vs o v h1 h2 h3=>by
   have:=hCH i B vs o v h1 h2 h3
   have hlt:B<W0.heap.size:=by
    obtain ⟨o',ho',_⟩:=cells_of_cell this;exact (Array.getElem?_eq_some_iff.1 ho').1
   exact (hb.cell (p:=⟨B,o,none⟩) hlt).trans this
  have q1:W.cell? ⟨c1,0,none⟩=some (.int .i64 (n:Int)):=hcell 0 c1 _ 0 _ rfl rfl rfl
  obtain ⟨F,hFe⟩ : ∃ F,F=FW none:=⟨_,rfl⟩
  have hFn : ∀ f,F.fn f:=fun f=>by rw [hFe];trivial
  have hro:F.round=none:=by rw [hFe];rfl
  have hat : ∀ (s:Nat),s<=1000000000000 -> ∀ (k:Nat) (w:World),CallsIn F k Try.prog 115 #[.agg #[.int .i64 (st:Int),.int .i64 (pl:Int),.int .i64 (ho:Int),.int .i64 (ge:Int),.int .i64 (p:Int),.int .i64 (h:Int)],.int .i64 (s:Int)] w fun e w'=>
    e = .returned (.tuple #[.int .i64 (((s+p*(st / pl))%st:Nat):Int),.int .i64 (((h+ge*s)%ho:Nat):Int)])/\Below w.heap.size w w':=fun s hs k w=>by
   rw [hFe]
   have:=YP st pl ho ge p h s (by omega) (by omega) (by omega) w
   obtain ⟨e1,e2⟩:=aaW st pl ho ge p h s hpl b1 b2 b3 b4 hs;rw [e1,e2] at this;exact callsIn_wide.2 this
  rw [←hFe] at hY ⊢;clear hFe
  have h115:=hFn 115
  have hN1:1<=N:=by omega
  have hN2:1<=N-1:=by omega
  have h142:=hFn 142
  refine callsIn_of_wp Try.func142 rfl h142 ?_ hro;simp only [Try.ntmps142,List.map_cons,List.map_nil,List.size_toArray,List.length_cons,List.length_nil,Nat.reduceAdd,Nat.reduceSub,Array.replicate_succ,Array.replicate_zero,List.push_toArray,List.append_toArray,List.nil_append,List.cons_append]
  have hCW:iI [c1,c2] [[.int .i64 (n:Int)],EO st pl ho ge p h] W:=hcell
  gi_wp2
  gi_loopw [6] (fun v wr => ∃ s:Nat,s<=n/\v = .int .i64 (s:Int)/\iI [c1,c2] [[.int .i64 (n:Int)],EO st pl ho ge p h] wr/\J ((List.range s).map fun s=>(s+p*(st / pl),h+ge*s)) wr) (fun v _=>n-aeE v)
  case atStart=>exact ⟨0,Nat.zero_le _,rfl,hCW,h0⟩
  case round=>
   obtain ⟨s,hs,rfl,hc,hJs⟩:=hrel
   have r0:wr.cell? ⟨c2,0,none⟩=some (.int .i64 (st:Int)):=hc 1 c2 _ 0 _ rfl rfl rfl
   have r1:wr.cell? ⟨c2,1,none⟩=some (.int .i64 (pl:Int)):=hc 1 c2 _ 1 _ rfl rfl rfl
   have r2:wr.cell? ⟨c2,2,none⟩=some (.int .i64 (ho:Int)):=hc 1 c2 _ 2 _ rfl rfl rfl
   have r3:wr.cell? ⟨c2,3,none⟩=some (.int .i64 (ge:Int)):=hc 1 c2 _ 3 _ rfl rfl rfl
   have r4:wr.cell? ⟨c2,4,none⟩=some (.int .i64 (p:Int)):=hc 1 c2 _ 4 _ rfl rfl rfl
   have r5:wr.cell? ⟨c2,5,none⟩=some (.int .i64 (h:Int)):=hc 1 c2 _ 5 _ rfl rfl rfl
   have hlen:s<n->((List.range s).map fun s=>(s+p*(st / pl),h+ge*s)).length<(gZ st pl ge p h n).length:=fun hs=>by simp [gZ];exact hs
   have hkeepJ : ∀ w1,Below wr.heap.size wr w1->J ((List.range s).map fun s=>(s+p*(st / pl),h+ge*s)) w1:=fun w1 hB=>hJ _ _ _ none hJs ⟨hB.os,hB.tape,hB.output,hB.size,fun k hk _=>hB.block k hk⟩ (fun r e=>by cases e)
   have hkeepC : ∀ w1,Below wr.heap.size wr w1->iI [c1,c2] [[.int .i64 (n:Int)],EO st pl ho ge p h] w1:=fun w1 hB i B vs o v h1 h2 h3=>by
    have:=hc i B vs o v h1 h2 h3
    obtain ⟨o',ho',_⟩:=cells_of_cell this;exact (hB.cell (p:=⟨B,o,none⟩) (Array.getElem?_eq_some_iff.1 ho').1).trans this
   gi_wp2_with (gi_at_call 115;refine (hat s (by omega) _ _).mono ?_;rintro e w1 ⟨rfl,hB1⟩;obtain ⟨fn,tmps,assign,body,hy,hR⟩:=hY _ (s+p*(st / pl),h+ge*s) w1 (hkeepJ w1 hB1) (hlen (by assumption));simp only [Int.natCast_emod,Int.natCast_add,Int.natCast_mul,Int.natCast_ediv] at hy)
   ·refine hR.mono ?_;rintro e W3 (⟨rfl,hJ3,hk3⟩ | ⟨rfl,hJx3⟩)
    ·have hc3:=hk3 (hkeepC w1 hB1)
     have hsn:s<n:=by assumption
     gi_wp2
     refine ⟨⟨s+1,by omega,by simp,hc3,?_⟩,?_⟩
     ·rw [List.range_succ,List.map_append];exact hJ3
     ·simp only [aeE];omega
    ·have hsn:s<n:=by assumption
     gi_wp2
     refine bodyPost_ret (results_none rfl _ _ _) rfl ?_;refine ⟨⟨_,rfl⟩,.inr ⟨_,?_,hJx3⟩⟩;refine ⟨((List.range (n-(s+1))).map (s+1 + ·)).map fun s=>(s+p*(st / pl),h+ge*s),?_⟩
     show _=(List.range n).map _
     rw [show n=(s+1)+(n-(s+1)) by omega,List.range_add,List.map_append,List.range_succ,List.map_append]
     simp
   ·have hsn:s=n:=by
     have : ¬ s<n:=by assumption
     omega
    subst hsn
    go_end0
    exact ⟨⟨_,rfl⟩,.inl ⟨_,rfl,hJs⟩⟩
end
end Go.Ex
namespace Go.Ex
open Go Go.Proofs Go.RowKit
open Go.IntKind (i64 wrap)
open Int (ofNat)
open Prod (snd)
noncomputable section
def sm1:T Smf:=(T.set (T.set (T.set (T.set (T.set sm0 88 (some (gFd KR (.one .bool) TV KS))) 91 (some (gFd EM (.one (.int .i64)) OI EN))) 120 (some (gFd ac8 (.one (.int .i64)) aeB ac9))) 121 (some (gFd RF (.one (.int .i64)) YM RG))) 115 (some (gFd atS (.tup [.one (.int .i64),.one (.int .i64)]) atC atR)))
theorem RH:Tab fC sm1:=(Tab.set (Tab.set (Tab.set (Tab.set (Tab.set e7 (by kernel_rfl) (aV e7 dQ VP rfl)) (by kernel_rfl) (aV e7 dQ RE rfl)) (by kernel_rfl) (aV e7 dQ ada rfl)) (by kernel_rfl) (aV e7 dQ YO rfl)) (by kernel_rfl) (aV e7 dQ abu rfl))
def RI (a b:Int):Int:=IntKind.i64.wrap (a.tdiv b)
def aE (st ho ge:Int):Int:=bA (RI st (aU st (RI ho (aU ho ge)))*RI ho (aU ho ge))
def KT:List PT:=[.agg [.int .i64,.int .i64,.int .i64,.int .i64]]
def e9:List FD->Bool
 | [.int _ st,.int _ _,.int _ ho,.int _ ge] => !decide (aU ho ge=0) && !decide (aU st (RI ho (aU ho ge))=0)
 | _=>false
def KU:List FD->List FD
 | [.int _ st,.int _ _,.int _ ho,.int _ ge]=>[.int .i64 (aE st ho ge)]
 | _=>[]
def TY (_st _pl _ho _ge:Int):Nat->bT:=aW (fun _=>[])
theorem VQ:cT (mkR sm1 gs0) Try.prog η0 100 (FI.of Try.f100 true) KT (.one (.int .i64)) e9 KU:=by
 refine aL RH dQ Try.fok100 (fun fds=>match fds with | [.int _ st,.int _ pl,.int _ ho,.int _ ge]=>TY st pl ho ge | _=>aW fun _=>[]) ?_
 intro fds hf hc;obtain ⟨st,ds0,rfl,hf1⟩:=hf.int;obtain ⟨pl,ds1,rfl,hf2⟩:=hf1.int;obtain ⟨ho,ds2,rfl,hf3⟩:=hf2.int;obtain ⟨ge,ds3,rfl,hf4⟩:=hf3.int;obtain rfl:=hf4.nil
 have hc:(!decide (aU ho ge=0) && !decide (aU st (RI ho (aU ho ge))=0))=true:=hc
 have hvc:(vcF sm1 gs0 (FI.of Try.f100 true) KT (.one (.int .i64)) (TY st pl ho ge) noR [.int .i64 st,.int .i64 pl,.int .i64 ho,.int .i64 ge] (KU [.int .i64 st,.int .i64 pl,.int .i64 ho,.int .i64 ge]))=
  (true=true/\(true=true->((! (decide (aU ho ge=(0:Int))))=true->(true=true->((! (decide (aU st (wrap i64 (Int.tdiv ho (aU ho ge)))=(0:Int))))=true->i64=i64/\aE st ho ge=wrap i64 (wrap i64 (Int.tdiv st (aU st (wrap i64 (Int.tdiv ho (aU ho ge)))))*wrap i64 (Int.tdiv ho (aU ho ge))))/\((! (decide (aU st (wrap i64 (Int.tdiv ho (aU ho ge)))=(0:Int))))=false->False))/\(true=false->False))/\((! (decide (aU ho ge=(0:Int))))=false->False))/\(true=false->False)):=by kernel_rfl
 refine hvc.mpr ?_;clear hvc;simp only [Bool.and_eq_true,Bool.not_eq_true',decide_eq_false_iff_not] at hc;simp [hc];exact ⟨fun _=>rfl,hc.2⟩
def sm2:T Smf:=(T.set sm1 100 (some (gFd KT (.one (.int .i64)) e9 KU)))
theorem RJ:Tab fC sm2:=(Tab.set RH (by kernel_rfl) (aV RH dQ VQ rfl))
def tA (st pl ho ge:Int):Bool:=(decide (1<=st)&&decide (st<=24))&&(decide (1<=pl)&&decide (pl<=8))&&(decide (1<=ho)&&decide (ho<=12))&&(decide (0<=ge)&&decide (ge<ho))&&decide (st.tmod pl=0)
def AU (pl ho p h:Int):Bool:=(decide (0<=p)&&decide (p<pl))&&(decide (0<=h)&&decide (h<ho))
def AV (st ho:Int)(nfl:Nat)(ffl:Nat->Nat->FD):Bool:=Nat.ble st.toNat nfl&&aH (fun i=>Nat.ble ho.toNat (ffl i 0).ln) st.toNat
theorem nU : ∀ (b a:Nat),aU (a:Int) (b:Int)=((Nat.gcd a b:Nat):Int):=by
 intro b
 induction b using Nat.strongRecOn with
 | _ b ih=>
  intro a
  rcases Nat.eq_zero_or_pos b with rfl | hb
  ·rw [show ((0:Nat):Int)=0 from rfl,yZ,Nat.gcd_zero_right]
  ·rw [zA _ (by omega),Int.tmod_eq_emod_of_nonneg (by omega),←Int.natCast_emod,ih (a%b) (Nat.mod_lt _ hb),Nat.gcd_comm b,←Nat.gcd_rec,Nat.gcd_comm]
theorem EP {a b:Nat} (ha:a<=9223372036854775807):RI (a:Int) (b:Int)=((a / b:Nat):Int):=by
 unfold RI;rw [Int.tdiv_eq_ediv_of_nonneg (by omega),←Int.natCast_ediv]
 have:a / b<=a:=Nat.div_le_self _ _
 generalize a / b=q at this ⊢
 exact aO (by omega) (by omega)
def KV (st ho ge:Nat):Nat:=st / Nat.gcd st (ho / Nat.gcd ho ge)*(ho / Nat.gcd ho ge)
theorem qY {st ho ge:Nat} (h1:st<=24) (h2:ho<=12):aE st ho ge=((KV st ho ge:Nat):Int):=by
 unfold aE KV
 have e1:ho / Nat.gcd ho ge<=ho:=Nat.div_le_self _ _
 have e2:st / Nat.gcd st (ho / Nat.gcd ho ge)<=st:=Nat.div_le_self _ _
 have e3:st / Nat.gcd st (ho / Nat.gcd ho ge)*(ho / Nat.gcd ho ge)<=24*12:=Nat.mul_le_mul (by omega) (by omega)
 rw [nU,EP (by omega),nU,EP (by omega),←Int.natCast_mul,kW (by omega)]
theorem lS {st pl ho ge:Int} (h:tA st pl ho ge=true) : ∃ S P H G:Nat,(st=S/\pl=P/\ho=H/\ge=G)/\1<=S/\S<=24/\1<=P/\P<=8/\1<=H/\H<=12/\G<H/\S%P=0:=by
 simp only [tA,Bool.and_eq_true,decide_eq_true_eq] at h;obtain ⟨⟨⟨⟨⟨a1,a2⟩,a3,a4⟩,a5,a6⟩,a7,a8⟩,a9⟩:=h;obtain ⟨S,rfl⟩:=Int.eq_ofNat_of_zero_le (show 0<=st by omega)
 obtain ⟨P,rfl⟩:=Int.eq_ofNat_of_zero_le (show 0<=pl by omega)
 obtain ⟨H,rfl⟩:=Int.eq_ofNat_of_zero_le (show 0<=ho by omega)
 obtain ⟨G,rfl⟩:=Int.eq_ofNat_of_zero_le (show 0<=ge by omega)
 refine ⟨S,P,H,G,⟨rfl,rfl,rfl,rfl⟩,by omega,by omega,by omega,by omega,by omega,by omega,by omega,?_⟩
 rw [Int.tmod_eq_emod_of_nonneg (by omega),←Int.natCast_emod] at a9
 omega
theorem OL {pl ho p h:Int} (hp:AU pl ho p h=true) : ∃ Q K:Nat,(p=Q/\h=K)/\(Q:Int)<pl/\(K:Int)<ho:=by
 simp only [AU,Bool.and_eq_true,decide_eq_true_eq] at hp;obtain ⟨⟨a1,a2⟩,a3,a4⟩:=hp;obtain ⟨Q,rfl⟩:=Int.eq_ofNat_of_zero_le a1;obtain ⟨K,rfl⟩:=Int.eq_ofNat_of_zero_le a3;exact ⟨Q,K,⟨rfl,rfl⟩,a2,a4⟩
theorem EQ {S H nfl:Nat} {ffl:Nat->Nat->FD} (h:AV (S:Int) (H:Int) nfl ffl=true):S<=nfl /\ ∀ i,i<S->H<=(ffl i 0).ln:=by
 simp only [AV,Bool.and_eq_true,Int.toNat_natCast] at h;exact ⟨Nat.le_of_ble_eq_true h.1,fun i hi=>Nat.le_of_ble_eq_true (bG h.2 i hi)⟩
theorem YQ {H:Nat} (G:Nat) (h:1<=H):0<H / Nat.gcd H G:=Nat.div_pos (Nat.le_of_dvd h (Nat.gcd_dvd_left H G)) (Nat.gcd_pos_of_pos_left G h)
theorem YR {S H:Nat} (G:Nat) (h1:1<=S) (h2:1<=H):0<KV S H G:=
 Nat.mul_pos (Nat.div_pos (Nat.le_of_dvd h1 (Nat.gcd_dvd_left S _)) (Nat.gcd_pos_of_pos_left _ h1)) (YQ G h2)
theorem AW {S H:Nat} (P G:Nat) (h1:1<=S) (h2:1<=H) (h3:H<=12):e9 [.int .i64 (S:Int),.int .i64 (P:Int),.int .i64 (H:Int),.int .i64 (G:Int)]=true:=by
 simp only [e9,Bool.and_eq_true,Bool.not_eq_true',decide_eq_false_iff_not];rw [nU,EP (by omega),nU]
 have e1:=Nat.gcd_pos_of_pos_left G h2
 have e2:=Nat.gcd_pos_of_pos_left (H / Nat.gcd H G) h1
 exact ⟨by omega,by omega⟩
end
end Go.Ex
