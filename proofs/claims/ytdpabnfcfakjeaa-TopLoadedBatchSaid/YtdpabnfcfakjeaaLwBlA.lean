/-
 How parts are given places: the plain model of the loader's walk, and its contract.
-/
import Derived.Test.YtdpabnfcfakjeaaLwLdA
import Derived.Test.YtdpabnfcfakjeaaExP
namespace Go.Ex
open Go Go.Proofs Go.RowKit
noncomputable section
set_option maxRecDepth 1000000
def A6 (P:Prop):Bool := @decide P (Classical.propDecidable P)
theorem nR {P:Prop}:A6 P=true↔P:=by simp [A6]
structure LS where
 pl:Nat->Nat->FD
 pa:Nat->Nat->FD
 se:Nat->Nat->FD
def LS.see (s:LS)(p:Nat):LS:=⟨s.pl,s.pa,lP s.se p 0 (.bool true)⟩
def LS.put (s:LS)(i:Nat)(p:Int):LS:=⟨lP s.pl i 0 (.int .i64 p),lP s.pa p.toNat 0 (.int .i64 i),s.se⟩
def gvL (rec:Nat->LS->Bool × LS)(f:Nat->Nat->FD)(i:Nat):Nat->Nat->LS->Bool × LS
 | 0,_,s=>(false,s)
 | n+1,x,s=>if (s.se (f x 0).i.toNat 0).b=true then gvL rec f i n (x+1) s
  else if ((s.see (f x 0).i.toNat).pa (f x 0).i.toNat 0).i<0 then (true,(s.see (f x 0).i.toNat).put i (f x 0).i)
  else if (rec ((s.see (f x 0).i.toNat).pa (f x 0).i.toNat 0).i.toNat (s.see (f x 0).i.toNat)).1=true then (true,(rec ((s.see (f x 0).i.toNat).pa (f x 0).i.toNat 0).i.toNat (s.see (f x 0).i.toNat)).2.put i (f x 0).i)
  else gvL rec f i n (x+1) (rec ((s.see (f x 0).i.toNat).pa (f x 0).i.toNat 0).i.toNat (s.see (f x 0).i.toNat)).2
def gv (F:Nat->Nat->FD):Nat->Nat->LS->Bool × LS
 | 0,_,s=>(false,s)
 | k+1,i,s=>gvL (gv F k) (F i 1).fn i (F i 1).ln 0 s
def cK (s:LS):Nat->Nat
 | 0=>0
 | n+1=>cK s n+if (s.se n 0).b=true then 0 else 1
structure iU (np:Nat) (F:Nat->Nat->FD) (q:Nat) (s:LS) (k:Nat) (i:Int):Prop where
 i0:0<=i
 i1:i<np
 fits : ∀ j,j<np->(F j 1).ln<=1000 /\ ∀ x,x<(F j 1).ln->0<=((F j 1).fn x 0).i/\((F j 1).fn x 0).i<q
 pa : ∀ p,p<q->(s.pa p 0).i<np
 un:cK s q<k
def ED (k:Nat):T Blk->List Sv->Option NU:=fun hp svs=>match svs with
 | [.one (.ptr (some (b1,0))),.one (.int .i64 x),.one (.own b4 n4)]=>match jB x,hp.get b1,hp.get b4 with
  | some i,some (.cells e1 s1 [.fz (.root 0 0) (.list [.str,.list [.int .i64]] np F),.int .i64 yx,.own b2 n2,.own b3 n3]),some (.row e4 [.bool] m4 se)=>match jB yx,hp.get b2,hp.get b3 with
   | some y,some (.row e2 [.int .i64] m2 pl),some (.row e3 [.int .i64] m3 pa)=>some ⟨[(1,b1),(2,b2),(3,b3),(4,b4)],[.one (.ptr (some (1,0))),.one (.int .i64 (.tm i)),.one (.own 4 n4)],
     [(1,.cells e1 s1 [.fz (.root 0 0) (.list [.str,.list [.int .i64]] np F),.int .i64 (.tm y),.own 2 n2,.own 3 n3]),(2,.row e2 [.int .i64] m2 pl),(3,.row e3 [.int .i64] m3 pa),(4,.row e4 [.bool] m4 se)],5,[],
     ⟨[(6,.one (.bool (.at_ false (.tm (gv F k i.toNat ⟨pl,pa,se⟩).1))))],[(1,.cells e1 s1 [.fz (.root 0 0) (.list [.str,.list [.int .i64]] np F),.int .i64 (.tm y),.own 2 n2,.own 3 n3]),(2,.row e2 [.int .i64] m2 (gv F k i.toNat ⟨pl,pa,se⟩).2.pl),(3,.row e3 [.int .i64] m3 (gv F k i.toNat ⟨pl,pa,se⟩).2.pa),(4,.row e4 [.bool] m4 (gv F k i.toNat ⟨pl,pa,se⟩).2.se)],5,.one (.bool (.at_ false (.tm (gv F k i.toNat ⟨pl,pa,se⟩).1)))⟩,
     A6 (iU np F n4 ⟨pl,pa,se⟩ k i)&&(Nat.beq n2 np&&(Nat.beq m2 np&&(Nat.beq n3 n4&&(Nat.beq m3 n4&&Nat.beq m4 n4))))⟩
   | _,_,_=>none
  | _,_,_=>none
 | _=>none
def ac4 (k:Nat):G2:=G2.setE gs0 95 (wrG (ED k))
def X7 (i:Int)(q:Nat):List Sv:=[.one (.ptr (some (1,0))),.one (.int .i64 (.tm i)),.one (.own 4 q)]
def KM (np:Nat)(F:Nat->Nat->FD)(y:Int)(q e1 s1 e2 e3 e4:Nat)(s:LS):List (Nat × Blk):=
 [(1,.cells e1 s1 [.fz (.root 0 0) (.list [.str,.list [.int .i64]] np F),.int .i64 (.tm y),.own 2 np,.own 3 q]),(2,.row e2 [.int .i64] np s.pl),(3,.row e3 [.int .i64] q s.pa),(4,.row e4 [.bool] q s.se)]
def X8 (np:Nat)(F:Nat->Nat->FD)(i y:Int)(q e1 s1 e2 e3 e4 k:Nat)(s:LS):Nat->bT:=aW fun
 | 2=>[⟨Nat × LS,fun x=>x.1<=(F i.toNat 1).ln/\gvL (gv F k) (F i.toNat 1).fn i.toNat ((F i.toNat 1).ln-x.1) x.1 x.2=gv F (k+1) i.toNat s/\(∀ p,p<q->(x.2.pa p 0).i<np)/\cK x.2 q<=cK s q,fun x=>(F i.toNat 1).ln-x.1,fun x=>
   [(0,.one (.ptr (some (1,0)))),(1,.one (.int .i64 (.tm i))),(2,.one (.own 4 q)),(6,.one (.bool (.lit false))),(17,.one (.fz (.elem (.root 0 0) (i.toNat*2+1)) (.list [.int .i64] (F i.toNat 1).ln (F i.toNat 1).fn))),(18,.one (.int .i64 (.tm (Int.ofNat (F i.toNat 1).ln)))),(19,.one (.int .i64 (.tm (Int.ofNat x.1))))],
   fun x=>KM np F y q e1 s1 e2 e3 e4 x.2,5⟩]
 | _=>[]
def abo (np:Nat)(F:Nat->Nat->FD)(y:Int)(q e1 s1 e2 e3 e4:Nat)(r:Bool × LS):dV:=⟨[(6,.one (.bool (.at_ false (.tm r.1))))],KM np F y q e1 s1 e2 e3 e4 r.2,5,.one (.bool (.at_ false (.tm r.1)))⟩
theorem yO (s t:LS) : ∀ {q:Nat},(∀ p,p<q->(s.se p 0).b=true->(t.se p 0).b=true)->cK t q<=cK s q
 | 0,_=>Nat.le_refl _
 | q+1,h=>by
  have ih:=yO s t (q:=q) fun p hp=>h p (by omega)
  simp only [cK]
  have:=h q (by omega)
  split<;>split<;>first | omega | (rename_i h1 h2;exact absurd (this h2) h1)
theorem TQ (s:LS)(p x:Nat):((s.see p).se x 0).b=if x=p then true else (s.se x 0).b:=by
 show (lP s.se p 0 (.bool true) x 0).b=_
 unfold lP
 by_cases h:x=p
 ·subst h;simp [FD.b]
 ·simp [fL,h]
theorem uE {s:LS} {p:Nat} : ∀ {q:Nat},p<q->(s.se p 0).b=false->cK (s.see p) q+1=cK s q
 | q+1,hp,h=>by
  simp only [cK,TQ]
  by_cases e:q=p
  ·subst e
   have : ∀ r,r<=q->cK (s.see q) r=cK s r:=by
    intro r
    induction r with
    | zero=>intro _;rfl
    | succ r ih=>
     intro hr;simp only [cK,TQ,if_neg (show r≠q by omega),ih (by omega)]
   rw [this q (Nat.le_refl _),if_pos rfl,h];simp
  ·have:=uE (q:=q) (by omega) h
   rw [if_neg e];omega
structure nS (np q:Nat) (s t:LS):Prop where
 pa:(∀ p,p<q->(s.pa p 0).i<np) -> ∀ p,p<q->(t.pa p 0).i<np
 se : ∀ p,(s.se p 0).b=true->(t.se p 0).b=true
theorem nS.refl {np q:Nat} (s:LS):nS np q s s:=⟨fun h=>h,fun _ h=>h⟩
theorem nS.trans {np q:Nat} {s t u:LS} (h:nS np q s t) (k:nS np q t u):nS np q s u:=⟨fun x=>k.pa (h.pa x),fun p x=>k.se p (h.se p x)⟩
theorem nS.see {np q:Nat} (s:LS) (p:Nat):nS np q s (s.see p):=⟨fun h=>h,fun x h=>by rw [TQ];split<;>first | rfl | exact h⟩
theorem nS.put {np q i:Nat} (s:LS) (p:Int) (hi:i<np):nS np q s (s.put i p):=⟨fun h x hx=>by
 show (lP s.pa p.toNat 0 (.int .i64 i) x 0).i<np
 unfold lP
 by_cases e:x=p.toNat
 ·subst e;simp [FD.i];omega
 ·simp only [fL,e,decide_false,Bool.false_and,cond_false];exact h x hx,fun _ h=>h⟩
theorem EE {np q i:Nat} {rec:Nat->LS->Bool × LS} {f:Nat->Nat->FD} (hi:i<np) (hr : ∀ (j:Nat) (s:LS),j<np->(∀ p,p<q->(s.pa p 0).i<(np:Int))->nS np q s (rec j s).2) : ∀ (n x:Nat) (s:LS),(∀ p,p<q->(s.pa p 0).i<np)->(∀ y,x<=y->y<x+n->0<=(f y 0).i/\(f y 0).i<q)->nS np q s (gvL rec f i n x s).2
 | 0,_,s,_,_=>nS.refl s
 | n+1,x,s,hs,hf=>by
  simp only [gvL]
  have hfx:=hf x (Nat.le_refl _) (by omega)
  have hp:(f x 0).i.toNat<q:=by omega
  split
  ·exact EE hi hr n (x+1) s hs fun y h1 h2=>hf y (by omega) (by omega)
  ·split
   ·exact (nS.see s _).trans (nS.put _ _ hi)
   ·rename_i h2
    have hpa:((s.see (f x 0).i.toNat).pa (f x 0).i.toNat 0).i<np:=hs _ hp
    have hk:=hr ((s.see (f x 0).i.toNat).pa (f x 0).i.toNat 0).i.toNat (s.see (f x 0).i.toNat) (by omega) hs
    have hk:=(nS.see (np:=np) (q:=q) s (f x 0).i.toNat).trans hk
    split
    ·exact hk.trans (nS.put _ _ hi)
    ·exact hk.trans (EE hi hr n (x+1) _ (hk.pa hs) fun y h1 h2=>hf y (by omega) (by omega))
theorem KN {np q:Nat} {F:Nat->Nat->FD} (hF : ∀ j,j<np->(F j 1).ln<=1000 /\ ∀ x,x<(F j 1).ln->0<=((F j 1).fn x 0).i/\((F j 1).fn x 0).i<q) : ∀ (k i:Nat) (s:LS),i<np->(∀ p,p<q->(s.pa p 0).i<np)->nS np q s (gv F k i s).2
 | 0,_,s,_,_=>nS.refl s
 | k+1,i,s,hi,hs=>EE hi (fun j t hj ht=>KN hF k j t hj ht) _ _ s hs fun y _ h2=>(hF i hi).2 y (by omega)
end
end Go.Ex
