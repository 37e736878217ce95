/-
 What was loaded is what was coated: histories that coat parts in one batch and strip them again, in plain words.
-/
import Derived.Test.YtdpabnfcfakjeaaLwBlPQ
import Derived.Test.YtdpabnfcfakjeaaLwHiDE
import Derived.Test.YtdpabnfcfakjeaaLwBlD
namespace Go.Ex
open Go Go.Proofs Go.RowKit
noncomputable section
set_option maxRecDepth 1000000
def plB (t:LS)(r:Nat):Bool:=decide (0<=(t.pl r 0).i)
def nmL (f:Nat->Nat->FD)(t:LS)(n:Nat):List (List UInt8):=((List.range n).filter (plB t)).map fun r=>(f r 0).s
def evF (nm:List (List UInt8)) (q:List UInt8) (i j:Nat):FD:=if i<nm.length then bD [.int .i64 (if i=0 then 1 else 0),.str (nm.getD i []),.str q] j else bD [.int .i64 2,.str (nm.getD (2*nm.length-1-i) []),.str []] j
section
variable {nm:List (List UInt8)} {q:List UInt8}
structure kT (nm:List (List UInt8)) (q:List UInt8):Prop where
 nd:nm.Nodup
 ok : ∀ s∈nm,aM s=true
 q:aM q=true
 n:nm.length<=12
theorem xO {l:List (List UInt8)} {i:Nat} (h:i<l.length):l.getD i []∈l:=by
 rw [List.getD_eq_getElem?_getD,List.getElem?_eq_getElem h];exact List.getElem_mem h
theorem oH {l:List (List UInt8)} (hn:l.Nodup) {i j:Nat} (hi:i<l.length) (hj:j<l.length) (h:l.getD i []=l.getD j []):i=j:=by
 rw [List.getD_eq_getElem?_getD,List.getD_eq_getElem?_getD,List.getElem?_eq_getElem hi,List.getElem?_eq_getElem hj] at h
 have h:l[i]=l[j]:=Option.some.inj (by simpa using congrArg some h)
 rcases Nat.lt_trichotomy i j with e | e | e
 ·exact absurd h (List.pairwise_iff_getElem.1 hn i j hi hj e)
 ·exact e
 ·exact absurd h.symm (List.pairwise_iff_getElem.1 hn j i hj hi e)
theorem UN {i:Nat} (h:i<nm.length):evF nm q i 0 = .int .i64 (if i=0 then 1 else 0):=by rw [evF,if_pos h];rfl
theorem UO {i:Nat} (h:i<nm.length):evF nm q i 1 = .str (nm.getD i []):=by rw [evF,if_pos h];rfl
theorem Z1 {i:Nat} (h:i<nm.length):evF nm q i 2 = .str q:=by rw [evF,if_pos h];rfl
theorem abE {j:Nat}:evF nm q (nm.length+j) 0 = .int .i64 2:=by rw [evF,if_neg (by omega)];rfl
theorem Z2 {j:Nat} (h:j<nm.length):evF nm q (nm.length+j) 1 = .str (nm.getD (nm.length-1-j) []):=by
 rw [evF,if_neg (by omega),show 2*nm.length-1-(nm.length+j)=nm.length-1-j by omega];rfl
theorem aeQ {j:Nat}:evF nm q (nm.length+j) 2 = .str []:=by rw [evF,if_neg (by omega)];rfl
theorem I6 {l:List UInt8} (h:aM l=true):aA l []=false:=by
 rw [m8];intro e;subst e;simp [aM] at h
theorem xP (h:kT nm q) : ∀ k,k<=nm.length->(∀ i,i<k->stF (evF nm q) k (nm.getD i [])=some (q,decide (i=0),0)) /\ ∀ p,(∀ i,i<k->p≠nm.getD i [])->stF (evF nm q) k p=none
 | 0,_=>⟨fun i hi=>by omega,fun _ _=>rfl⟩
 | k+1,hk=>by
  obtain ⟨a,b⟩:=xP h k (by omega)
  have hs:(evF nm q k 1).s=nm.getD k []:=by rw [UO (by omega)];rfl
  refine ⟨fun i hi => ?_,fun p hp => ?_⟩
  ·rw [stF,hs]
   by_cases e:i=k
   ·subst e;rw [if_pos (bW.2 rfl),b _ fun j hj e=>by have:=oH h.nd (by omega) (by omega) e;omega]
    rw [iY,UN (by omega),Z1 (by omega)]
    by_cases h0:i=0<;>simp [h0,FD.i,FD.s]
   ·rw [if_neg,a i (by omega)]
    rw [bW];intro e2
    have:=oH h.nd (by omega) (by omega) e2
    omega
  ·rw [stF,hs,if_neg,b p fun i hi=>hp i (by omega)]
   rw [bW];exact fun e=>hp k (by omega) e.symm
theorem xQ (h:kT nm q) : ∀ k,k<=nm.length->aS (evF nm q) k=nm.take k
 | 0,_=>by simp [aS]
 | k+1,hk=>by
  rw [aS,xQ h k (by omega),UN (by omega),UO (by omega),if_neg]
  ·rw [List.take_add_one,List.getElem?_eq_getElem (by omega)]
   simp [FD.s,List.getElem?_eq_getElem (show k<nm.length by omega)]
  ·by_cases h0:k=0<;>simp [h0,FD.i]
theorem I7 (h:kT nm q) {k:Nat} (hk:k<nm.length):evE (evF nm q) k=0:=by
 have hb:=(xP h k (by omega)).2 (nm.getD k []) fun i hi e=>by have:=oH h.nd (by omega) (by omega) e;omega
 have hs:evS (evF nm q) k=([],false,0):=by rw [evS,UO hk];show (stF (evF nm q) k (nm.getD k [])).getD _=_;rw [hb];rfl
 have hn:=h.ok _ (xO hk)
 rw [evE,hs,UN hk,UO hk,Z1 hk]
 have n1:aM (FD.str (nm.getD k [])).s=true:=hn
 have n2:aM (FD.str q).s=true:=h.q
 rw [n1,n2]
 by_cases h0:k=0<;>simp [h0,FD.i,aA]
theorem rT (h:kT nm q) : ∀ j,j<=nm.length->(∀ i,i<nm.length->stF (evF nm q) (nm.length+j) (nm.getD i [])=some (if nm.length-j<=i then ([],false,1) else (q,decide (i=0),0)))/\aS (evF nm q) (nm.length+j)=nm.take (nm.length-j)
 | 0,_=>⟨fun i hi=>by rw [Nat.add_zero,(xP h _ (Nat.le_refl _)).1 i hi,if_neg (by omega)],by rw [Nat.add_zero,xQ h _ (Nat.le_refl _),Nat.sub_zero]⟩
 | j+1,hj=>by
  obtain ⟨a,b⟩:=rT h j (by omega)
  have hs:(evF nm q (nm.length+j) 1).s=nm.getD (nm.length-1-j) []:=by rw [Z2 (by omega)];rfl
  have hk:(evF nm q (nm.length+j) 0).i=2:=by rw [abE];rfl
  refine ⟨fun i hi => ?_,?_⟩
  ·rw [←Nat.add_assoc,stF,hs]
   by_cases e:i=nm.length-1-j
   ·subst e;rw [if_pos (bW.2 rfl),a _ (by omega),iY,if_pos hk,if_neg (by omega),if_pos (by omega)]
    rfl
   ·rw [if_neg,a i hi]
    ·by_cases h1:nm.length-j<=i
     ·rw [if_pos h1,if_pos (by omega)]
     ·rw [if_neg h1,if_neg (by omega)]
    ·rw [bW];intro e2
     have:=oH h.nd (by omega) hi e2
     omega
  ·have hlt:nm.length-(j+1)<nm.length:=by omega
   rw [←Nat.add_assoc,aS,if_pos hk,b,hs,show nm.length-j=nm.length-(j+1)+1 by omega,List.take_add_one,List.getElem?_eq_getElem hlt,show nm.length-1-j=nm.length-(j+1) by omega]
   simp only [Option.toList,List.filter_append]
   have e1:(nm.take (nm.length-(j+1))).filter (fun s => !aA s (nm.getD (nm.length-(j+1)) []))=nm.take (nm.length-(j+1)):=by
    refine List.filter_eq_self.2 fun s hsm => ?_
    obtain ⟨i,hi,rfl⟩:=List.getElem_of_mem hsm;simp only [List.length_take] at hi;rw [Bool.not_eq_true',m8,List.getElem_take];intro e2
    have:nm.getD i []=nm.getD (nm.length-(j+1)) []:=by
     rw [←e2,List.getD_eq_getElem?_getD,List.getElem?_eq_getElem (by omega)];rfl
    have:=oH h.nd (by omega) hlt this
    omega
   rw [e1];simp [bH,List.getElem?_eq_getElem hlt]
theorem SM (h:kT nm q) {j:Nat} (hj:j<nm.length):evE (evF nm q) (nm.length+j)=0:=by
 have ha:=(rT h j (by omega)).1 (nm.length-1-j) (by omega)
 rw [if_neg (by omega)] at ha
 have hs:evS (evF nm q) (nm.length+j)=(q,decide (nm.length-1-j=0),0):=by
  rw [evS,Z2 hj];show (stF (evF nm q) (nm.length+j) (nm.getD (nm.length-1-j) [])).getD _=_;rw [ha];rfl
 have hn:=h.ok _ (xO (show nm.length-1-j<nm.length by omega))
 rw [evE,hs,abE,Z2 hj,aeQ]
 have n1:aM (FD.str (nm.getD (nm.length-1-j) [])).s=true:=hn
 rw [n1]
 have hq:=I6 h.q
 simp [FD.i,FD.s,hq,bH]
theorem GX (h:kT nm q):bF nm.length (evF nm q)=0:=by
 have:=h.n
 rw [bF,if_pos (by omega)]
 exact qW fun i hi=>I7 h hi
theorem sO (h:kT nm q):bF (nm.length+nm.length) (evF nm q)=0:=by
 have:=h.n
 rw [bF,if_pos (by omega)]
 refine qW fun i hi => ?_
 by_cases e:i<nm.length
 ·exact I7 h e
 ·obtain ⟨j,rfl⟩ : ∃ j,i=nm.length+j:=⟨i-nm.length,by omega⟩
  exact SM h (by omega)
theorem I8 {n:Nat} (h:kT nm q) (h0:0<nm.length) (hn:nm.length<=n):dK (fD (evF nm q) q) n 0=true:=by
 cases hb:dK (fD (evF nm q) q) n 0 with
 | true=>rfl
 | false=>
  have:=lM hb 0 (by omega) (by omega)
  rw [fD,UN h0,Z1 h0] at this;simp [FD.i,FD.s,bH] at this
theorem GY (l:List (List UInt8)):pD l.length (aC l)=l:=by
 unfold pD aC;refine List.ext_getElem (by simp) fun i h1 h2 => ?_
 simp only [List.length_map,List.length_range] at h1;simp [FD.s,h1]
theorem aba (h:kT nm q)(h0:0<nm.length):baE nm.length (evF nm q) q=0/\baL nm.length (evF nm q) q=nm:=by
 have e:baE nm.length (evF nm q) q=0:=by rw [baE,if_pos (GX h),if_pos (I8 h h0 (Nat.le_refl _))]
 refine ⟨e,?_⟩;rw [baL,if_pos e,xQ h _ (Nat.le_refl _),List.take_length,coL,GY];refine List.filter_eq_self.2 fun s hs => ?_
 obtain ⟨i,hi,rfl⟩:=List.getElem_of_mem hs
 have hg:nm[i]=nm.getD i []:=by rw [List.getD_eq_getElem?_getD,List.getElem?_eq_getElem hi];rfl
 rw [isB,o8,hg,(xP h _ (Nat.le_refl _)).1 i hi];exact bW.2 rfl
theorem Z3 (h:kT nm q)(h0:0<nm.length):baE (nm.length+nm.length) (evF nm q) q=0/\baL (nm.length+nm.length) (evF nm q) q=[]:=by
 have e:baE (nm.length+nm.length) (evF nm q) q=0:=by rw [baE,if_pos (sO h),if_pos (I8 h h0 (by omega))]
 refine ⟨e,?_⟩;rw [baL,if_pos e,(rT h _ (Nat.le_refl _)).2,Nat.sub_self];rfl
theorem abb (h:kT nm q) {i:Nat} (hi:i<nm.length):wiE nm.length (evF nm q) (nm.getD i [])=0/\wiL nm.length (evF nm q) (nm.getD i [])=if i=0 then [] else [nm.getD 0 []]:=by
 have hst:=(xP h _ (Nat.le_refl _)).1
 have hq:=I6 h.q
 have e:wiE nm.length (evF nm q) (nm.getD i [])=0:=by
  rw [wiE,if_pos (GX h),hst i hi];simp only [hq];rfl
 refine ⟨e,?_⟩;rw [wiL,if_pos e,xQ h _ (Nat.le_refl _),List.take_length,coL,GY,hst i hi]
 have key : ∀ j,j<nm.length->isW (stM (evF nm q) nm.length) (nm.getD i []) q (nm.getD j [])=(!decide (j=i)&&decide (j=0)):=fun j hj=>by
  rw [isW,o8,o8,hst j hj]
  have e1:aA (nm.getD j []) (nm.getD i [])=decide (j=i):=by
   by_cases hji:j=i
   ·subst hji;rw [bW.2 rfl];simp
   ·rw [decide_eq_false hji,m8];exact fun e=>hji (oH h.nd hj hi e)
  rw [e1]
  show (!decide (j=i)&&(decide (j=0)&&aA q q))=_
  rw [bW.2 rfl,Bool.and_true]
 show nm.filter (isW (stM (evF nm q) nm.length) (nm.getD i []) q)=_
 have hcons:nm=nm.getD 0 []::nm.tail:=by
  cases nm with
  | nil=>simp at hi
  | cons a l=>rfl
 have htail:nm.tail.filter (isW (stM (evF nm q) nm.length) (nm.getD i []) q)=[]:=by
  refine List.filter_eq_nil_iff.2 fun s hs => ?_
  obtain ⟨j,hj,rfl⟩:=List.getElem_of_mem hs;rw [List.length_tail] at hj
  have hg:nm.tail[j]=nm.getD (j+1) []:=by rw [List.getElem_tail,List.getD_eq_getElem?_getD,List.getElem?_eq_getElem (by omega)];rfl
  rw [hg,key (j+1) (by omega)]
  simp
 have h0:=key 0 (by omega)
 rw [show nm.filter (isW (stM (evF nm q) nm.length) (nm.getD i []) q)=(nm.getD 0 []::nm.tail).filter (isW (stM (evF nm q) nm.length) (nm.getD i []) q) from congrArg _ hcons,List.filter_cons,h0,htail]
 by_cases hz:i=0
 ·subst hz;simp
 ·rw [if_neg hz];simp [Ne.symm hz]
theorem Z4 (h:kT nm q) {i:Nat} (hi:i<nm.length):soS (nm.length+nm.length) (evF nm q) (nm.getD i [])=([],false,1)/\soE (nm.length+nm.length) (evF nm q) (nm.getD i [])=0:=by
 have hst:=(rT h _ (Nat.le_refl _)).1 i hi
 rw [if_pos (by omega)] at hst
 rw [soS,soE,if_pos (sO h),if_pos (sO h),hst];exact ⟨rfl,rfl⟩
end
end
end Go.Ex
namespace Go.Ex
open Go Go.Proofs Go.RowKit
noncomputable section
set_option maxRecDepth 1000000
theorem sP {l:List UInt8} (h:aM l=true):0<l.length/\l.length<=12:=by
 simp only [aM,Bool.and_eq_true,decide_eq_true_eq] at h;exact h.2
theorem UP {f:Nat->Nat->FD} {pc:Int} (hp:0<=pc/\pc<=24) {n:Nat} (h:aX (eU f pc) n=0) : ∀ k,k<n->(k:Int)<=(f k 0).i/\(f k 0).i<=pc-1
 | 0,hk=>by
  have e:=fE h 0 hk
  have hw:IntKind.i64.wrap (pc-1)=pc-1:=aO (by omega) (by omega)
  rw [eU,hw] at e;split at e
  ·rename_i c;exact ⟨by omega,c.2⟩
  ·omega
 | k+1,hk=>by
  have ih:=UP hp h k (by omega)
  have e:=fE h (k+1) hk
  have hw:IntKind.i64.wrap (pc-1)=pc-1:=aO (by omega) (by omega)
  rw [eU,hw] at e;split at e
  ·rename_i c;split at e
   ·omega
   ·rename_i d;rw [Nat.add_sub_cancel] at d;exact ⟨by omega,c.2⟩
  ·omega
theorem nD {pc:Int} {n:Nat} {f:Nat->Nat->FD} (h:bJ pc n f=0):mW n f=true:=by
 have hp:=GK h
 have hn:n<=24/\aX (bX pc f) n=0:=by
  rw [bJ,if_pos hp] at h;split at h
  ·exact ⟨by assumption,h⟩
  ·omega
 refine ZP (by omega) fun i hi => ?_
 have e:=fE hn.2 i hi
 rw [bX] at e;split at e
 ·rename_i hb;split at e
  ·omega
  ·refine ⟨by have:=sP hb;omega,?_⟩
   rcases Nat.lt_or_ge 100 (f i 1).ln with hl | hl
   ·have:=UP hp e 99 (by omega)
    omega
   ·exact hl
 ·omega
theorem SN {pc:Int} {n:Nat} {f:Nat->Nat->FD} (h:bJ pc n f=0):(∀ i,i<n->aM (f i 0).s=true) /\ ∀ i,i<n -> ∀ k,k<i->(f k 0).s≠(f i 0).s:=by
 have hp:=GK h
 have hn:n<=24/\aX (bX pc f) n=0:=by
  rw [bJ,if_pos hp] at h;split at h
  ·exact ⟨by assumption,h⟩
  ·omega
 refine ⟨fun i hi => ?_,fun i hi k hk he => ?_⟩
 ·have e:=fE hn.2 i hi
  rw [bX] at e;split at e
  ·assumption
  ·omega
 ·have e:=fE hn.2 i hi
  rw [bX] at e;split at e
  ·rw [if_pos (GF (bW.2 he) hk)] at e;omega
  ·omega
theorem abc {pc:Int} {n:Nat} {f:Nat->Nat->FD} (h:bJ pc n f=0) (h10:n<=10) {t:LS} {q:List UInt8} (hq:aM q=true):kT (nmL f t n) q:=by
 obtain ⟨a,b⟩:=SN h;refine ⟨?_,fun s hs => ?_,hq,?_⟩
 ·unfold nmL;refine List.pairwise_map.2 (List.Pairwise.imp_of_mem (R:=(· < ·)) (fun {x y} _ hy hlt => ?_) (List.pairwise_lt_range.filter _))
  exact b y (List.mem_range.1 (List.mem_filter.1 hy).1) x hlt
 ·obtain ⟨r,hr,rfl⟩:=List.mem_map.1 hs;exact a r (List.mem_range.1 (List.mem_filter.1 hr).1)
 ·unfold nmL;rw [List.length_map]
  have:=List.length_filter_le (plB t) (List.range n)
  rw [List.length_range] at this;omega
theorem GZ {F G:Nat->Nat->FD} (p:List UInt8) : ∀ {n:Nat},(∀ k,k<n -> ∀ j,F k j=G k j)->stF F n p=stF G n p
 | 0,_=>rfl
 | n+1,h=>by
  rw [stF,stF,GZ p fun k hk=>h k (by omega),h n (by omega)]
  unfold iY;simp only [h n (by omega)]
theorem Z5 {F G:Nat->Nat->FD} {n:Nat} (h : ∀ k,k<=n -> ∀ j,F k j=G k j):evE F n=evE G n:=by
 have hs:evS F n=evS G n:=by rw [evS,evS,h n (Nat.le_refl _),GZ _ fun k hk=>h k (by omega)]
 unfold evE;simp only [hs,h n (Nat.le_refl _)]
section
variable {nm:List (List UInt8)} {q:List UInt8}
theorem V9 (h:kT nm q) {F:Nat->Nat->FD} (h1 : ∀ k,k<nm.length+nm.length -> ∀ j,F k j=evF nm q k j) {i:Nat} (hi:i<nm.length) {a:List UInt8} (ha:aM a=true)
  (h2:F (nm.length+nm.length) 0 = .int .i64 0) (h3:F (nm.length+nm.length) 1 = .str (nm.getD i [])) (h4:F (nm.length+nm.length) 2 = .str a):bF (nm.length+nm.length+1) F=0:=by
 have hn:=h.n
 have hf:=sO h
 rw [bF,if_pos (by omega)] at hf
 have e0:aX (evE F) (nm.length+nm.length)=0:=by
  rw [(I0 fun k hk=>Z5 fun m hm=>h1 m (by omega)).1]
  exact hf
 rw [bF,if_pos (by omega)]
 refine sH e0 ?_
 have hst:=(rT h _ (Nat.le_refl _)).1 i hi
 rw [if_pos (by omega)] at hst
 have hs:evS F (nm.length+nm.length)=([],false,1):=by
  rw [evS,h3]
  show (stF F _ (nm.getD i [])).getD _=_
  rw [GZ _ h1,hst];rfl
 have n1:aM (FD.str (nm.getD i [])).s=true:=h.ok _ (xO hi)
 have n2:aM (FD.str a).s=true:=ha
 rw [evE,hs,h2,h3,h4,n1,n2];simp [FD.i,aA]
end
theorem UQ {f:Nat->Nat->FD} {t:LS} {y:Nat} (h:(t.pl y 0).i<0):nmL f t (y+1)=nmL f t y:=by
 unfold nmL;rw [List.range_succ,List.filter_append]
 have:plB t y=false:=by simp [plB];omega
 simp [this]
theorem G0 {f:Nat->Nat->FD} {t:LS} {y:Nat} (h : ¬ (t.pl y 0).i<0):nmL f t (y+1)=nmL f t y++[(f y 0).s]:=by
 unfold nmL;rw [List.range_succ,List.filter_append]
 have:plB t y=true:=by simp [plB];omega
 simp [this]
theorem Z6 {f:Nat->Nat->FD} {t:LS} : ∀ {n:Nat},(∀ i,i<n -> -1<=(t.pl i 0).i)->((nmL f t n).length:Int)=i9 t.pl n
 | 0,_=>rfl
 | n+1,h=>by
  have ih:=Z6 (f:=f) (n:=n) fun i hi=>h i (by omega)
  have hn:=h n (by omega)
  by_cases hl:(t.pl n 0).i<0
  ·rw [UQ hl,i9,if_pos (by omega),ih]
  ·rw [G0 hl,i9,if_neg (by omega),←ih]
   simp
theorem adx {s q:List UInt8} {i:Nat} (hi:i<1) (j:Nat):evF [s] q i j=bD [.int .i64 1,.str s,.str q] j:=by
 obtain rfl:i=0:=by omega
 rfl
theorem abd {s:List UInt8} {i:Nat} (hi:i<1) {j:Nat} (hj:j<1):aC [s] i j=bD [.str s] j:=by
 obtain rfl:i=0:=by omega
 obtain rfl:j=0:=by omega
 rfl
theorem ady {l:List (List UInt8)} (hl:l≠[]) {s q:List UInt8} {i:Nat} (hi:i<l.length+1) (j:Nat):evF (l++[s]) q i j=bif Nat.blt i l.length then evF l q i j else bD [.int .i64 0,.str s,.str q] j:=by
 have hp:0<l.length:=List.length_pos_iff.2 hl
 by_cases h:i<l.length
 ·have:Nat.blt i l.length=true:=Nat.ble_eq_true_of_le h
  rw [this,evF,evF,if_pos (by simp;omega),if_pos h]
  simp [List.getD_eq_getElem?_getD,List.getElem?_append_left h]
 ·have:Nat.blt i l.length=false:=by rw [Bool.eq_false_iff];intro e;exact h (Nat.le_of_ble_eq_true e)
  obtain rfl:i=l.length:=by omega
  rw [this,evF,if_pos (by simp)]
  simp [List.getD_eq_getElem?_getD,Nat.ne_of_gt hp]
theorem abe {l:List (List UInt8)} {s:List UInt8} {i:Nat} (hi:i<l.length+1) {j:Nat} (hj:j<1):aC (l++[s]) i j=bif Nat.blt i l.length then aC l i j else bD [.str s] j:=by
 obtain rfl:j=0:=by omega
 by_cases h:i<l.length
 ·have:Nat.blt i l.length=true:=Nat.ble_eq_true_of_le h
  rw [this];simp [aC,List.getD_eq_getElem?_getD,List.getElem?_append_left h]
 ·have:Nat.blt i l.length=false:=by rw [Bool.eq_false_iff];intro e;exact h (Nat.le_of_ble_eq_true e)
  obtain rfl:i=l.length:=by omega
  rw [this];simp [aC,bD,List.getD_eq_getElem?_getD]
end
end Go.Ex
namespace Go.Ex
open Go Go.Proofs Go.RowKit
noncomputable section
set_option maxRecDepth 1000000
theorem adz {pc:Int} {n:Nat} {f:Nat->Nat->FD} (h:bJ pc n f=0):((nmL f (blT n f) n).length:Int)=blC f n:=by
 obtain ⟨hpc,hn,hF⟩:=IJ h (nD h)
 have k:aez n pc.toNat f (blT n f) (blC f n):=YI hF (by omega)
 rw [←k.n];refine Z6 fun i hi => ?_
 have e:=fE k.pl i hi
 rw [A2] at e;split at e
 ·rename_i c;rw [c];exact Int.le_refl _
 ·split at e
  ·rename_i c;have:=c.1;omega
  ·omega
section
variable {nm:List (List UInt8)} {q:List UInt8}
theorem G1 (h:kT nm q)(i:Nat):(nm.getD i []).length<=12:=by
 rcases Nat.lt_or_ge i nm.length with hi | hi
 ·exact (sP (h.ok _ (xO hi))).2
 ·rw [List.getD_eq_getElem?_getD,List.getElem?_eq_none hi];exact Nat.zero_le _
theorem abF (h:kT nm q)(i:Nat):((evF nm q i 1).s.length<=20)/\((evF nm q i 2).s.length<=20):=by
 have hq:=(sP h.q).2
 unfold evF;split
 ·have:=G1 h i
  exact ⟨show (nm.getD i []).length<=20 by omega,show q.length<=20 by omega⟩
 ·have:=G1 h (2*nm.length-1-i)
  exact ⟨show (nm.getD (2*nm.length-1-i) []).length<=20 by omega,Nat.zero_le _⟩
theorem PS (h:kT nm q) {k:Nat} (hk:k<=nm.length+nm.length):sR k (evF nm q)=true:=by
 have:=h.n
 rw [sR,Nat.ble_eq_true_of_le (by omega),Bool.true_and]
 refine iK fun i _ => ?_
 obtain ⟨a,b⟩:=abF h i;rw [Y2,Nat.ble_eq_true_of_le a,Nat.ble_eq_true_of_le b];rfl
theorem Z7 {y:Nat} (hy:y<nm.length) {i:Nat} (hi:i<nm.length+y+1) (j:Nat) (hj:j<3):
  evF nm q i j=bif Nat.blt i (nm.length+y) then evF nm q i j else bD [.int .i64 2,.str (nm.getD (nm.length-1-y) []),.str []] j:=by
 by_cases h:i<nm.length+y
 ·have:Nat.blt i (nm.length+y)=true:=Nat.ble_eq_true_of_le h
  rw [this];rfl
 ·have:Nat.blt i (nm.length+y)=false:=by rw [Bool.eq_false_iff];intro e;exact h (Nat.le_of_ble_eq_true e)
  obtain rfl:i=nm.length+y:=by omega
  rw [this,evF,if_neg (by omega),show 2*nm.length-1-(nm.length+y)=nm.length-1-y by omega]
  rfl
end
end
end Go.Ex
