/-
 The loader's walk, in plain words: what a walk that finds a place leaves, and what one that finds none has sQ.
-/
import Derived.Test.YtdpabnfcfakjeaaLwBlA
import Derived.Test.YtdpabnfcfakjeaaLwLdEZ
namespace Go.Ex
open Go Go.Proofs Go.RowKit
noncomputable section
set_option maxRecDepth 1000000
abbrev LS.L (s:LS)(r:Nat):Int:=(s.pl r 0).i
abbrev LS.A (s:LS)(p:Nat):Int:=(s.pa p 0).i
abbrev LS.S (s:LS)(p:Nat):Prop:=(s.se p 0).b=true
def Fit (F:Nat->Nat->FD)(r:Nat)(v:Int):Prop := ∃ x,x<(F r 1).ln/\((F r 1).fn x 0).i=v
def v7 (np q:Nat)(F:Nat->Nat->FD):Prop := ∀ j,j<np -> ∀ v,Fit F j v->0<=v/\v<q
theorem abr (s:LS)(i:Nat)(p:Int)(r:Nat):(s.put i p).L r=if r=i then p else s.L r:=by
 show (lP s.pl i 0 (.int .i64 p) r 0).i=_
 unfold lP
 by_cases h:r=i
 ·subst h;simp [FD.i]
 ·simp [fL,h]
theorem TT (s:LS)(i:Nat)(p:Int)(r:Nat):(s.put i p).A r=if r=p.toNat then (i:Int) else s.A r:=by
 show (lP s.pa p.toNat 0 (.int .i64 i) r 0).i=_
 unfold lP
 by_cases h:r=p.toNat
 ·subst h;simp [FD.i]
 ·simp [fL,h]
theorem AR (s:LS)(p x:Nat):(s.see p).S x↔x=p∨s.S x:=by
 show ((s.see p).se x 0).b=true↔_
 rw [TQ]
 by_cases h:x=p<;>simp [h]
structure Mt (np q:Nat) (F:Nat->Nat->FD) (s:LS):Prop where
 a : ∀ r,r<np->0<=s.L r->s.L r<q/\s.A (s.L r).toNat=r/\Fit F r (s.L r)
 b : ∀ p,p<q->0<=s.A p->s.A p<np/\s.L (s.A p).toNat=p
 c : ∀ r,r<np->s.L r<0->s.L r = -1
structure Suc (np q:Nat) (F:Nat->Nat->FD) (i:Nat) (s t:LS):Prop where
 a : ∀ r,r<np->0<=t.L r->t.L r<q/\t.A (t.L r).toNat=r/\Fit F r (t.L r)
 b : ∀ p,p<q->0<=t.A p->t.A p<np/\(t.L (t.A p).toNat=p∨(t.A p=i/\s.L i=p))
 c : ∀ r,r<np->t.L r<0->t.L r = -1
 i1:0<=t.L i
 r1 : ∀ r,r<np->r≠i->(0<=t.L r↔0<=s.L r)
 sn : ∀ p,p<q->s.S p->t.A p=s.A p
 nw : ¬ s.S (t.L i).toNat
theorem Suc.of {np q:Nat} {F:Nat->Nat->FD} {i:Nat} {s s' t:LS} (h:Suc np q F i s' t) (hL:s'.pl=s.pl) (hA:s'.pa=s.pa) (hS : ∀ p,s.S p->s'.S p):Suc np q F i s t:=by
 have eL : ∀ r,s'.L r=s.L r:=fun r=>by show (s'.pl r 0).i=_;rw [hL]
 have eA : ∀ r,s'.A r=s.A r:=fun r=>by show (s'.pa r 0).i=_;rw [hA]
 exact ⟨h.a,fun p hp h0=>by rw [←eL];exact h.b p hp h0,h.c,h.i1,fun r hr hn=>by rw [←eL];exact h.r1 r hr hn,fun p hp hs=>by rw [←eA];exact h.sn p hp (hS p hs),fun hs=>h.nw (hS _ hs)⟩
structure Ent (np q:Nat) (F:Nat->Nat->FD) (i:Nat) (s:LS):Prop where
 m:Mt np q F s
 hi:i<np
 e:0<=s.L i->s.S (s.L i).toNat
theorem YE {np q:Nat} {F:Nat->Nat->FD} {i:Nat} {s:LS} {c:Int} (h:Ent np q F i s) (hc0:0<=c) (o:c<q) (hf:Fit F i c) (hs : ¬ s.S c.toNat) (hn:s.A c.toNat<0):Suc np q F i s ((s.see c.toNat).put i c):=by
 have eL : ∀ r,((s.see c.toNat).put i c).L r=if r=i then c else s.L r:=fun r=>abr _ _ _ _
 have eA : ∀ r,((s.see c.toNat).put i c).A r=if r=c.toNat then (i:Int) else s.A r:=fun r=>TT _ _ _ _
 refine ⟨fun r hr => ?_,fun p hp => ?_,fun r hr => ?_,by rw [eL,if_pos rfl];exact hc0,fun r hr hne=>by rw [eL,if_neg hne],fun p hp hsp => ?_,by rw [eL,if_pos rfl];exact hs⟩
 ·rw [eL];split
  ·rename_i e;subst e;intro _;exact ⟨o,by rw [eA,if_pos rfl],hf⟩
  ·intro h0;obtain ⟨k1,k2,k3⟩:=h.m.a r hr h0;refine ⟨k1,?_,k3⟩;rw [eA,if_neg]
   ·exact k2
   ·intro e;rw [e] at k2;omega
 ·rw [eA];split
  ·rename_i e;intro _
   have hi:=h.hi
   refine ⟨by omega,.inl ?_⟩
   rw [eL,if_pos (by omega)]
   omega
  ·rename_i e;intro h0;obtain ⟨k1,k2⟩:=h.m.b p hp h0;refine ⟨k1,?_⟩;rw [eL]
   by_cases hri:(s.A p).toNat=i
   ·refine .inr ⟨by omega,?_⟩
    rw [hri] at k2;exact k2
   ·rw [if_neg hri];exact .inl k2
 ·rw [eL];split
  ·intro;omega
  ·exact h.m.c r hr
 ·rw [eA,if_neg];intro e;subst e;exact hs hsp
theorem YF {np q:Nat} {F:Nat->Nat->FD} {i:Nat} {s t:LS} {c:Int} (h:Ent np q F i s) (hc0:0<=c) (o:c<q) (hf:Fit F i c) (hs : ¬ s.S c.toNat) (hn:0<=s.A c.toNat) (k:Suc np q F (s.A c.toNat).toNat (s.see c.toNat) t):Suc np q F i s (t.put i c):=by
 have eL : ∀ r,(t.put i c).L r=if r=i then c else t.L r:=fun r=>abr _ _ _ _
 have eA : ∀ r,(t.put i c).A r=if r=c.toNat then (i:Int) else t.A r:=fun r=>TT _ _ _ _
 have hpq:c.toNat<q:=by omega
 obtain ⟨j1,j2⟩:=h.m.b c.toNat hpq hn
 generalize hj:(s.A c.toNat).toNat=j at *
 have hjA:s.A c.toNat=j:=by omega
 have hseen:(s.see c.toNat).S c.toNat:=(AR _ _ _).2 (.inl rfl)
 have tAc:t.A c.toNat=j:=by rw [k.sn c.toNat hpq hseen];exact hjA
 have hji:j≠i:=fun e=>by
  subst e
  have:=h.e (by rw [j2];omega)
  rw [j2] at this;rw [Int.toNat_natCast] at this;exact hs this
 have hjn:j<np:=by omega
 have hne:t.L j≠c:=fun e=>k.nw (by rw [e];exact hseen)
 have hiL:0<=t.L i->t.L i=s.L i:=fun h0=>by
  have h1:0<=s.L i:=(k.r1 i h.hi (Ne.symm hji)).1 h0
  have hse:=h.e h1
  obtain ⟨a1,a2,_⟩:=h.m.a i h.hi h1
  have h2:t.A (s.L i).toNat=i:=by
   rw [k.sn _ (by omega) ((AR _ _ _).2 (.inr hse))]
   exact a2
  rcases (k.b (s.L i).toNat (by omega) (by omega)).2 with e | ⟨e,_⟩
  ·rw [h2] at e
   have:(i:Int).toNat=i:=by omega
   rw [this] at e;omega
  ·rw [h2] at e;omega
 refine ⟨fun r hr => ?_,fun p hp => ?_,fun r hr => ?_,by rw [eL,if_pos rfl];exact hc0,fun r hr hne' => ?_,fun p hp hsp => ?_,by rw [eL,if_pos rfl];exact hs⟩
 ·rw [eL];split
  ·rename_i e;subst e;intro _;exact ⟨o,by rw [eA,if_pos rfl],hf⟩
  ·intro h0;obtain ⟨k1,k2,k3⟩:=k.a r hr h0;refine ⟨k1,?_,k3⟩;rw [eA,if_neg]
   ·exact k2
   ·intro e;rw [e,tAc] at k2
    have:r=j:=by omega
    subst this;exact hne (by omega)
 ·rw [eA];split
  ·rename_i e;intro _
   have hi:=h.hi
   refine ⟨by omega,.inl ?_⟩
   rw [eL,if_pos (by omega)]
   omega
  ·rename_i e;intro h0;obtain ⟨k1,k2⟩:=k.b p hp h0;refine ⟨k1,?_⟩
   rcases k2 with k2 | ⟨k2,k3⟩
   ·rw [eL]
    by_cases hri:(t.A p).toNat=i
    ·rw [hri] at k2;refine .inr ⟨by omega,?_⟩
     rw [←hiL (by omega)]
     exact k2
    ·rw [if_neg hri];exact .inl k2
   ·have k3:s.L j=p:=k3
    rw [j2] at k3;omega
 ·rw [eL];split
  ·intro;omega
  ·exact k.c r hr
 ·rw [eL,if_neg hne']
  by_cases e:r=j
  ·subst e
   have:=k.i1
   have:s.L r=c.toNat:=j2
   constructor<;>intro<;>omega
  ·exact k.r1 r hr e
 ·rw [eA,if_neg,k.sn p hp ((AR _ _ _).2 (.inr hsp))]
  ·rfl
  ·intro e;subst e;exact hs hsp
theorem RC {np q:Nat} {F:Nat->Nat->FD} {i:Nat} {rec:Nat->LS->Bool × LS} (hF:v7 np q F) (hr : ∀ (j:Nat) (s:LS),Ent np q F j s->((rec j s).1=true->Suc np q F j s (rec j s).2)/\((rec j s).1=false->(rec j s).2.pl=s.pl/\(rec j s).2.pa=s.pa /\ ∀ p,s.S p->(rec j s).2.S p)):
  ∀ (n x:Nat) (s:LS),x+n=(F i 1).ln->Ent np q F i s->((gvL rec (F i 1).fn i n x s).1=true->Suc np q F i s (gvL rec (F i 1).fn i n x s).2)/\((gvL rec (F i 1).fn i n x s).1=false->(gvL rec (F i 1).fn i n x s).2.pl=s.pl/\(gvL rec (F i 1).fn i n x s).2.pa=s.pa /\ ∀ p,s.S p->(gvL rec (F i 1).fn i n x s).2.S p)
 | 0,x,s,_,h=>⟨fun e=>(by simp [gvL] at e),fun _=>⟨rfl,rfl,fun _ h=>h⟩⟩
 | n+1,x,s,hx,h=>by
  simp only [gvL]
  have hf:Fit F i ((F i 1).fn x 0).i:=⟨x,by omega,rfl⟩
  obtain ⟨c0,cq⟩:=hF i h.hi _ hf
  generalize ((F i 1).fn x 0).i=c at *
  have o:c.toNat<q:=by omega
  split
  ·exact RC hF hr n (x+1) s (by omega) h
  ·rename_i hs;split
   ·rename_i hn;exact ⟨fun _=>YE h c0 cq hf hs hn,fun e=>by simp at e⟩
   ·rename_i hn
    have hn:0<=s.A c.toNat:=by have : ¬ s.A c.toNat<0:=hn;omega
    obtain ⟨j1,j2⟩:=h.m.b c.toNat o hn
    have hE:Ent np q F (s.A c.toNat).toNat (s.see c.toNat):=⟨⟨h.m.a,h.m.b,h.m.c⟩,by omega,fun _=>by
     show (s.see c.toNat).S (s.L (s.A c.toNat).toNat).toNat
     rw [j2];exact (AR _ _ _).2 (.inl (by omega))⟩
    obtain ⟨r1,r2⟩:=hr _ _ hE;split
    ·rename_i ht;exact ⟨fun _=>YF h c0 cq hf hs hn (r1 ht),fun e=>by simp at e⟩
    ·rename_i ht;obtain ⟨q1,q2,q3⟩:=r2 (Bool.eq_false_iff.2 ht)
     have q3 : ∀ p,s.S p->(rec (s.A c.toNat).toNat (s.see c.toNat)).2.S p:=fun p hp=>q3 p ((AR _ _ _).2 (.inr hp))
     have q1:(rec (s.A c.toNat).toNat (s.see c.toNat)).2.pl=s.pl:=q1
     have q2:(rec (s.A c.toNat).toNat (s.see c.toNat)).2.pa=s.pa:=q2
     have eL : ∀ r,(rec (s.A c.toNat).toNat (s.see c.toNat)).2.L r=s.L r:=fun r=>by show (LS.pl _ r 0).i=_;rw [q1]
     have eA : ∀ r,(rec (s.A c.toNat).toNat (s.see c.toNat)).2.A r=s.A r:=fun r=>by show (LS.pa _ r 0).i=_;rw [q2]
     have h':Ent np q F i (rec (s.A c.toNat).toNat (s.see c.toNat)).2:=⟨⟨fun r=>by rw [eL,eA];exact h.m.a r,fun r=>by rw [eA,eL];exact h.m.b r,fun r=>by rw [eL];exact h.m.c r⟩,h.hi,by rw [eL];exact fun h0=>q3 _ (h.e h0)⟩
     obtain ⟨g1,g2⟩:=RC hF hr n (x+1) _ (by omega) h'
     exact ⟨fun e=>(g1 e).of q1 q2 q3,fun e=>by
      obtain ⟨u1,u2,u3⟩:=g2 e;exact ⟨u1.trans q1,u2.trans q2,fun p hp=>u3 p (q3 p hp)⟩⟩
theorem YG {np q:Nat} {F:Nat->Nat->FD} (hF:v7 np q F) : ∀ (k i:Nat) (s:LS),Ent np q F i s->((gv F k i s).1=true->Suc np q F i s (gv F k i s).2)/\((gv F k i s).1=false->(gv F k i s).2.pl=s.pl/\(gv F k i s).2.pa=s.pa /\ ∀ p,s.S p->(gv F k i s).2.S p)
 | 0,i,s,_=>⟨fun e=>(by simp [gv] at e),fun _=>⟨rfl,rfl,fun _ h=>h⟩⟩
 | k+1,i,s,h=>RC hF (YG hF k) _ 0 s (by omega) h
def iV (F:Nat->Nat->FD)(S:Nat->Prop)(r:Nat):Prop := ∀ v,Fit F r v->S v.toNat
def jQ (q:Nat)(F:Nat->Nat->FD)(S:Nat->Prop)(s:LS):Prop := ∀ p,p<q->S p->0<=s.A p/\iV F S (s.A p).toNat
theorem EI {np q:Nat} {F:Nat->Nat->FD} {S:Nat->Prop} {i:Nat} {rec:Nat->LS->Bool × LS} (hF:v7 np q F) (hi:i<np) (hr : ∀ (j:Nat) (s:LS),j<np->(∀ p,p<q->s.A p<np)->jQ q F S s->iV F S j->(rec j s).1=false/\(rec j s).2.pa=s.pa) (hfi:iV F S i):
  ∀ (n x:Nat) (s:LS),x+n=(F i 1).ln->(∀ p,p<q->s.A p<np)->jQ q F S s->(gvL rec (F i 1).fn i n x s).1=false/\(gvL rec (F i 1).fn i n x s).2.pa=s.pa
 | 0,_,_,_,_,_=>⟨rfl,rfl⟩
 | n+1,x,s,hx,hA,hc=>by
  simp only [gvL]
  have hf:Fit F i ((F i 1).fn x 0).i:=⟨x,by omega,rfl⟩
  obtain ⟨c0,cq⟩:=hF i hi _ hf
  have hS:=hfi _ hf
  generalize ((F i 1).fn x 0).i=c at *
  have o:c.toNat<q:=by omega
  obtain ⟨k1,k2⟩:=hc c.toNat o hS;split
  ·exact EI hF hi hr hfi n (x+1) s (by omega) hA hc
  ·rw [if_neg (show ¬ ((s.see c.toNat).pa c.toNat 0).i<0 from by show ¬ s.A c.toNat<0;omega)]
   have hlt:=hA c.toNat o
   obtain ⟨r1,r2⟩:=hr (s.A c.toNat).toNat (s.see c.toNat) (by omega) hA hc k2
   have r1:(rec ((s.see c.toNat).pa c.toNat 0).i.toNat (s.see c.toNat)).1=false:=r1
   rw [if_neg (by rw [r1];decide)]
   have r2:(rec ((s.see c.toNat).pa c.toNat 0).i.toNat (s.see c.toNat)).2.pa=s.pa:=r2
   have eA : ∀ r,(rec ((s.see c.toNat).pa c.toNat 0).i.toNat (s.see c.toNat)).2.A r=s.A r:=fun r=>by show (LS.pa _ r 0).i=_;rw [r2]
   obtain ⟨g1,g2⟩:=EI hF hi hr hfi n (x+1) (rec ((s.see c.toNat).pa c.toNat 0).i.toNat (s.see c.toNat)).2 (by omega) (fun p hp=>by rw [eA];exact hA p hp) (fun p hp hSp=>by rw [eA];exact hc p hp hSp)
   exact ⟨g1,g2.trans r2⟩
theorem KO {np q:Nat} {F:Nat->Nat->FD} {S:Nat->Prop} (hF:v7 np q F) : ∀ (k i:Nat) (s:LS),i<np->(∀ p,p<q->s.A p<np)->jQ q F S s->iV F S i->(gv F k i s).1=false/\(gv F k i s).2.pa=s.pa
 | 0,_,_,_,_,_,_=>⟨rfl,rfl⟩
 | k+1,i,s,hi,hA,hc,hfi=>EI hF hi (KO hF k) hfi _ 0 s (by omega) hA hc
theorem yR {np q:Nat} {F:Nat->Nat->FD} {S:Nat->Prop} {i:Nat} {rec:Nat->LS->Bool × LS} (hF:v7 np q F) (hi:i<np) (hn : ∀ (j:Nat) (s:LS),j<np->(∀ p,p<q->s.A p<np)->jQ q F S s->iV F S j->(rec j s).1=false)
  (hk : ∀ (j:Nat) (s:LS),j<np->(∀ p,p<q->s.A p<np) -> ∀ p,p<q->(rec j s).2.A p<np)
  (hr : ∀ (j:Nat) (s:LS),j<np->(∀ p,p<q->s.A p<np)->jQ q F S s -> ∀ p,p<q->S p->(rec j s).2.A p=s.A p):
  ∀ (n x:Nat) (s:LS),x+n=(F i 1).ln->(∀ p,p<q->s.A p<np)->jQ q F S s -> ∀ p,p<q->S p->(gvL rec (F i 1).fn i n x s).2.A p=s.A p
 | 0,_,_,_,_,_,_,_,_=>rfl
 | n+1,x,s,hx,hA,hc,p,hp,hSp=>by
  simp only [gvL]
  have hf:Fit F i ((F i 1).fn x 0).i:=⟨x,by omega,rfl⟩
  obtain ⟨c0,cq⟩:=hF i hi _ hf
  generalize ((F i 1).fn x 0).i=c at *
  have o:c.toNat<q:=by omega
  have hlt:=hA c.toNat o
  split
  ·exact yR hF hi hn hk hr n (x+1) s (by omega) hA hc p hp hSp
  ·split
   ·rename_i h0
    show ((s.see c.toNat).put i c).A p=s.A p
    rw [TT,if_neg]
    ·rfl
    ·rintro rfl
     have:=(hc _ o hSp).1
     have h0:s.A c.toNat<0:=h0
     omega
   ·rename_i h0
    have h0 : ¬ s.A c.toNat<0:=h0
    have hlj:(s.A c.toNat).toNat<np:=by omega
    have e1:=hr (s.A c.toNat).toNat (s.see c.toNat) hlj hA hc
    have e0 : ∀ p,p<q->(rec (s.A c.toNat).toNat (s.see c.toNat)).2.A p<np:=hk (s.A c.toNat).toNat (s.see c.toNat) hlj hA
    split
    ·rename_i ht
     have ht:(rec (s.A c.toNat).toNat (s.see c.toNat)).1=true:=ht
     show ((rec (s.A c.toNat).toNat (s.see c.toNat)).2.put i c).A p=s.A p
     rw [TT,if_neg]
     ·exact e1 p hp hSp
     ·rintro rfl;rw [hn _ (s.see c.toNat) hlj hA hc (hc _ o hSp).2] at ht
      cases ht
    ·refine (yR hF hi hn hk hr n (x+1) (rec (s.A c.toNat).toNat (s.see c.toNat)).2 (by omega) e0 (fun p hp hSp => ?_) p hp hSp).trans (e1 p hp hSp)
     rw [e1 p hp hSp];exact hc p hp hSp
theorem OD {np q:Nat} {F:Nat->Nat->FD} {S:Nat->Prop} (hF:v7 np q F) (h1 : ∀ j,j<np->(F j 1).ln<=1000 /\ ∀ x,x<(F j 1).ln->0<=((F j 1).fn x 0).i/\((F j 1).fn x 0).i<q) : ∀ (k i:Nat) (s:LS),i<np->(∀ p,p<q->s.A p<np)->jQ q F S s -> ∀ p,p<q->S p->(gv F k i s).2.A p=s.A p
 | 0,_,_,_,_,_,_,_,_=>rfl
 | k+1,i,s,hi,hA,hc,p,hp,hSp=>yR hF hi (fun j s hj hs hcs hfj=>(KO hF k j s hj hs hcs hfj).1) (fun j s hj hs=>(KN h1 k j s hj hs).pa hs) (OD hF h1 k) _ 0 s (by omega) hA hc p hp hSp
theorem EJ {np q:Nat} {F:Nat->Nat->FD} {i k:Nat} {rec:Nat->LS->Bool × LS} (hF:v7 np q F) (hi:i<np)
  (hr : ∀ (j:Nat) (s:LS),j<np->(∀ p,p<q->s.A p<np)->cK s q<k->(rec j s).1=false->(rec j s).2.pa=s.pa/\(∀ p,s.S p->(rec j s).2.S p)/\iV F (rec j s).2.S j /\ ∀ p,p<q->(rec j s).2.S p -> ¬ s.S p->0<=s.A p/\iV F (rec j s).2.S (s.A p).toNat):
  ∀ (n x:Nat) (s:LS),x+n=(F i 1).ln->(∀ p,p<q->s.A p<np)->cK s q<k+1->(gvL rec (F i 1).fn i n x s).1=false->
   (gvL rec (F i 1).fn i n x s).2.pa=s.pa/\(∀ p,s.S p->(gvL rec (F i 1).fn i n x s).2.S p)/\(∀ y,x<=y->y<(F i 1).ln->(gvL rec (F i 1).fn i n x s).2.S ((F i 1).fn y 0).i.toNat) /\ ∀ p,p<q->(gvL rec (F i 1).fn i n x s).2.S p -> ¬ s.S p->0<=s.A p/\iV F (gvL rec (F i 1).fn i n x s).2.S (s.A p).toNat
 | 0,x,s,hx,_,_,_=>⟨rfl,fun _ h=>h,fun y h1 h2=>by omega,fun p _ h1 h2=>absurd h1 h2⟩
 | n+1,x,s,hx,hA,hu,ht=>by
  have hf:Fit F i ((F i 1).fn x 0).i:=⟨x,by omega,rfl⟩
  obtain ⟨c0,cq⟩:=hF i hi _ hf
  generalize hc:((F i 1).fn x 0).i=c at *
  have o:c.toNat<q:=by omega
  have hlt:=hA c.toNat o
  by_cases hs:(s.se c.toNat 0).b=true
  ·have e:gvL rec (F i 1).fn i (n+1) x s=gvL rec (F i 1).fn i n (x+1) s:=by simp only [gvL];rw [hc,if_pos hs]
   rw [e] at ht ⊢;obtain ⟨g1,g2,g3,g4⟩:=EJ hF hi hr n (x+1) s (by omega) hA hu ht
   refine ⟨g1,g2,fun y h1 h2 => ?_,g4⟩
   by_cases hxy:y=x
   ·subst hxy;rw [hc];exact g2 _ hs
   ·exact g3 y (by omega) h2
  ·have hu2:=uE (s:=s) o (Bool.eq_false_iff.2 hs)
   by_cases hn:s.A c.toNat<0
   ·exfalso
    have e:gvL rec (F i 1).fn i (n+1) x s=(true,(s.see c.toNat).put i c):=by simp only [gvL];rw [hc,if_neg hs,if_pos (show ((s.see c.toNat).pa c.toNat 0).i<0 from hn)]
    rw [e] at ht
    cases ht
   ·cases hrt:(rec (s.A c.toNat).toNat (s.see c.toNat)).1 with
    | true=>
     exfalso
     have e:gvL rec (F i 1).fn i (n+1) x s=(true,(rec (s.A c.toNat).toNat (s.see c.toNat)).2.put i c):=by
      simp only [gvL];rw [hc,if_neg hs,if_neg (show ¬ ((s.see c.toNat).pa c.toNat 0).i<0 from hn),if_pos (show (rec ((s.see c.toNat).pa c.toNat 0).i.toNat (s.see c.toNat)).1=true from hrt)];rfl
     rw [e] at ht
     cases ht
    | false=>
     have e:gvL rec (F i 1).fn i (n+1) x s=gvL rec (F i 1).fn i n (x+1) (rec (s.A c.toNat).toNat (s.see c.toNat)).2:=by
      simp only [gvL];rw [hc,if_neg hs,if_neg (show ¬ ((s.see c.toNat).pa c.toNat 0).i<0 from hn),if_neg (show ¬ (rec ((s.see c.toNat).pa c.toNat 0).i.toNat (s.see c.toNat)).1=true from by
       have hrt:(rec ((s.see c.toNat).pa c.toNat 0).i.toNat (s.see c.toNat)).1=false:=hrt
       rw [hrt];decide)]
      rfl
     rw [e] at ht ⊢;obtain ⟨r1,r2,r3,r4⟩:=hr (s.A c.toNat).toNat (s.see c.toNat) (by omega) hA (by omega) hrt
     generalize (rec (s.A c.toNat).toNat (s.see c.toNat)).2=t at *
     have r1:t.pa=s.pa:=r1
     have eA : ∀ p,t.A p=s.A p:=fun p=>by show (t.pa p 0).i=_;rw [r1]
     have hst : ∀ p,s.S p->t.S p:=fun p hp=>r2 p ((AR _ _ _).2 (.inr hp))
     have htc:t.S c.toNat:=r2 _ ((AR _ _ _).2 (.inl rfl))
     have hut:cK t q<=cK s q:=yO s t fun p _=>hst p
     obtain ⟨g1,g2,g3,g4⟩:=EJ hF hi hr n (x+1) t (by omega) (fun p hp=>by rw [eA];exact hA p hp) (by omega) ht
     refine ⟨g1.trans r1,fun p hp=>g2 p (hst p hp),fun y h1 h2 => ?_,fun p hp h1 h2 => ?_⟩
     ·by_cases hxy:y=x
      ·subst hxy;rw [hc];exact g2 _ htc
      ·exact g3 y (by omega) h2
     ·by_cases hpt:t.S p
      ·by_cases hpc:p=c.toNat
       ·subst hpc;exact ⟨by omega,fun v hv=>g2 _ (r3 v hv)⟩
       ·obtain ⟨k1,k2⟩:=r4 p hp hpt fun h=>by
         rcases (AR _ _ _).1 h with h | h
         ·exact hpc h
         ·exact h2 h
        exact ⟨k1,fun v hv=>g2 _ (k2 v hv)⟩
      ·have:=g4 p hp h1 hpt
       rw [eA] at this;exact this
theorem KP {np q:Nat} {F:Nat->Nat->FD} (hF:v7 np q F) : ∀ (k i:Nat) (s:LS),i<np->(∀ p,p<q->s.A p<np)->cK s q<k->(gv F k i s).1=false->
  (gv F k i s).2.pa=s.pa/\(∀ p,s.S p->(gv F k i s).2.S p)/\iV F (gv F k i s).2.S i /\ ∀ p,p<q->(gv F k i s).2.S p -> ¬ s.S p->0<=s.A p/\iV F (gv F k i s).2.S (s.A p).toNat
 | 0,_,s,_,_,hu,_=>by omega
 | k+1,i,s,hi,hA,hu,ht=>by
  obtain ⟨g1,g2,g3,g4⟩:=EJ hF hi (fun j s hj hs hus htj=>KP hF k j s hj hs hus htj) _ 0 s (by omega) hA hu ht
  refine ⟨g1,g2,fun v hv => ?_,g4⟩
  obtain ⟨y,h1,rfl⟩:=hv;exact g3 y (Nat.zero_le _) h1
end
end Go.Ex
namespace Go.Ex
open Go Go.Proofs Go.RowKit
noncomputable section
set_option maxRecDepth 1000000
def aey:Nat->Nat->FD:=fun _ j=>bD [FD.bool false] j
def abt:Nat->Nat->FD:=fun _ _ => .int .i64 (-1)
def LS.fresh (s:LS):LS:=⟨s.pl,s.pa,aey⟩
def blS (F:Nat->Nat->FD):Nat->LS
 | 0=>⟨abt,abt,aey⟩
 | i+1=>(gv F 25 i (blS F i).fresh).2
def blC (F:Nat->Nat->FD):Nat->Int
 | 0=>0
 | i+1=>blC F i+if (gv F 25 i (blS F i).fresh).1=true then 1 else 0
def rcS (F:Nat->Nat->FD)(s:LS):Nat->LS
 | 0=>s.fresh
 | i+1=>if (rcS F s i).L i<0 then (gv F 25 i (rcS F s i)).2 else rcS F s i
theorem AS {f g:Nat->Nat->FD} : ∀ {n:Nat},(∀ r,r<n->((f r 0).i = -1↔(g r 0).i = -1))->i9 f n=i9 g n
 | 0,_=>rfl
 | n+1,h=>by
  rw [i9,i9,AS fun r hr=>h r (by omega)]
  have:=h n (by omega)
  by_cases e:(f n 0).i = -1
  ·rw [if_pos e,if_pos (this.1 e)]
  ·rw [if_neg e,if_neg fun e'=>e (this.2 e')]
structure BlI (np q:Nat) (F:Nat->Nat->FD) (i:Nat) (s:LS) (c:Int):Prop where
 m:Mt np q F s
 u : ∀ r,i<=r->r<np->s.L r<0
 n:i9 s.pl i=c
 cl : ∃ S:Nat->Prop,jQ q F S s /\ ∀ r,r<i->s.L r<0->iV F S r
def v8 (np q:Nat)(F:Nat->Nat->FD):Prop := ∀ j,j<np->(F j 1).ln<=1000 /\ ∀ x,x<(F j 1).ln->0<=((F j 1).fn x 0).i/\((F j 1).fn x 0).i<q
theorem v8.fb {np q:Nat} {F:Nat->Nat->FD} (h:v8 np q F):v7 np q F:=fun j hj v ⟨x,h1,h2⟩=>by
 rw [←h2];exact (h j hj).2 x h1
theorem o3 (s:LS) : ∀ q:Nat,cK s.fresh q=q
 | 0=>rfl
 | q+1=>by simp only [cK,o3 s q];rfl
theorem TU (s:LS)(p:Nat) : ¬ s.fresh.S p:=fun h=>by cases h
theorem Mt.lt {np q:Nat} {F:Nat->Nat->FD} {s:LS} (h:Mt np q F s) (hnp:0<np∨True) : ∀ p,p<q->s.A p<0∨s.A p<np:=fun p hp=>by
 rcases Int.lt_or_le (s.A p) 0 with h0 | h0
 ·exact .inl h0
 ·exact .inr (h.b p hp h0).1
theorem Mt.lt' {np q:Nat} {F:Nat->Nat->FD} {s:LS} (h:Mt np q F s) : ∀ p,p<q->s.A p<np:=fun p hp=>by
 rcases h.lt (.inr trivial) p hp with h0 | h0<;>omega
theorem EK {np q:Nat} {F:Nat->Nat->FD} (hF:v8 np q F) (hq:q<=24) : ∀ i,i<=np->BlI np q F i (blS F i) (blC F i)
 | 0,_=>⟨⟨fun r hr h0=>by have:(0:Int) <= -1:=h0;omega,fun p hp h0=>by have:(0:Int) <= -1:=h0;omega,fun _ _ _=>rfl⟩,fun r _ _=>by show (-1:Int)<0;decide,rfl,fun _=>False,fun p hp h=>h.elim,fun r hr=>by omega⟩
 | i+1,hi=>by
  have ih:=EK hF hq i (by omega)
  simp only [blS,blC]
  generalize blS F i=s at ih ⊢
  generalize blC F i=c at ih ⊢
  have hin:i<np:=by omega
  have hL:s.L i<0:=ih.u i (Nat.le_refl _) hin
  have hE:Ent np q F i s.fresh:=⟨⟨ih.m.a,ih.m.b,ih.m.c⟩,hin,fun h=>by have h:0<=s.L i:=h;omega⟩
  obtain ⟨g1,g2⟩:=YG hF.fb 25 i s.fresh hE;obtain ⟨S,hS,hfS⟩:=ih.cl
  cases ht:(gv F 25 i s.fresh).1 with
  | true=>
   have k:=g1 ht
   have hap:=OD (S:=S) hF.fb hF 25 i s.fresh hin ih.m.lt' hS
   generalize (gv F 25 i s.fresh).2=t at k hap ⊢
   refine ⟨⟨k.a,fun p hp h0 => ?_,k.c⟩,fun r h1 h2 => ?_,?_,S,fun p hp hSp => ?_,fun r hr h0 => ?_⟩
   ·obtain ⟨b1,b2⟩:=k.b p hp h0;refine ⟨b1,?_⟩
    rcases b2 with b2 | ⟨_,b2⟩
    ·exact b2
    ·have b2:s.L i=p:=b2
     omega
   ·have h3:0<=t.L r↔0<=s.L r:=k.r1 r h2 (by omega)
    have:=ih.u r (by omega) h2
    omega
   ·rw [i9]
    have e:i9 t.pl i=i9 s.pl i:=AS fun r hr=>by
     have h3:0<=t.L r↔0<=s.L r:=k.r1 r (by omega) (by omega)
     have h4:=k.c r (by omega)
     have h5:=ih.m.c r (by omega)
     show t.L r = -1↔s.L r = -1
     omega
    have h6:0<=(t.pl i 0).i:=k.i1
    rw [if_neg (by omega),e,ih.n]
    simp
   ·rw [hap p hp hSp];exact hS p hp hSp
   ·by_cases e:r=i
    ·subst e
     have:=k.i1
     omega
    ·have h3:0<=t.L r↔0<=s.L r:=k.r1 r (by omega) e
     exact hfS r (by omega) (by omega)
  | false=>
   obtain ⟨k1,k2,_⟩:=g2 ht;obtain ⟨s1,_,s3,s4⟩:=KP hF.fb 25 i s.fresh hin ih.m.lt' (by rw [o3];omega) ht
   generalize (gv F 25 i s.fresh).2=t at *
   have k1:t.pl=s.pl:=k1
   have k2:t.pa=s.pa:=k2
   have eL : ∀ r,t.L r=s.L r:=fun r=>by show (t.pl r 0).i=_;rw [k1]
   have eA : ∀ r,t.A r=s.A r:=fun r=>by show (t.pa r 0).i=_;rw [k2]
   refine ⟨⟨fun r=>by rw [eL,eA];exact ih.m.a r,fun p=>by rw [eA,eL];exact ih.m.b p,fun r=>by rw [eL];exact ih.m.c r⟩,fun r h1 h2=>by rw [eL];exact ih.u r (by omega) h2,?_,fun p=>S p∨t.S p,fun p hp hSp => ?_,fun r hr h0 => ?_⟩
   ·rw [i9,k1,if_pos (ih.m.c i hin hL),ih.n];simp
   ·rw [eA]
    rcases hSp with h | h
    ·obtain ⟨a1,a2⟩:=hS p hp h;exact ⟨a1,fun v hv => .inl (a2 v hv)⟩
    ·obtain ⟨a1,a2⟩:=s4 p hp h (TU s p);exact ⟨a1,fun v hv => .inr (a2 v hv)⟩
   ·rw [eL] at h0
    by_cases e:r=i
    ·subst e;exact fun v hv => .inr (s3 v hv)
    ·exact fun v hv => .inl (hfS r (by omega) h0 v hv)
structure RcI (np q:Nat) (F:Nat->Nat->FD) (i:Nat) (s t:LS):Prop where
 l:t.pl=s.pl
 a:t.pa=s.pa
 cl:jQ q F t.S s
 f : ∀ r,r<i->s.L r<0->iV F t.S r
theorem EL (s:LS) : ∀ q:Nat,cK s q<=q
 | 0=>Nat.le_refl _
 | q+1=>by have:=EL s q;simp only [cK];split<;>omega
theorem KQ {np q:Nat} {F:Nat->Nat->FD} (hF:v8 np q F) (hq:q<=24) {s:LS} {c:Int} (h:BlI np q F np s c) : ∀ i,i<=np->RcI np q F i s (rcS F s i)
 | 0,_=>⟨rfl,rfl,fun p _ hp=>(TU s p hp).elim,fun r hr=>by omega⟩
 | i+1,hi=>by
  have ih:=KQ hF hq h i (by omega)
  simp only [rcS]
  generalize rcS F s i=t at ih ⊢
  have hin:i<np:=by omega
  have eL : ∀ r,t.L r=s.L r:=fun r=>by show (t.pl r 0).i=_;rw [ih.l]
  have eA : ∀ r,t.A r=s.A r:=fun r=>by show (t.pa r 0).i=_;rw [ih.a]
  have hAt : ∀ p,p<q->t.A p<np:=fun p hp=>by rw [eA];exact h.m.lt' p hp
  split
  ·rename_i h0;obtain ⟨S,hS,hfS⟩:=h.cl
   have hE:Ent np q F i t:=⟨⟨fun r=>by rw [eL,eA];exact h.m.a r,fun p=>by rw [eA,eL];exact h.m.b p,fun r=>by rw [eL];exact h.m.c r⟩,hin,fun h1=>by omega⟩
   have hno:=(KO (S:=S) hF.fb 25 i t hin hAt (fun p hp hSp=>by rw [eA];exact hS p hp hSp) (hfS i hin (by rw [←eL];exact h0))).1
   obtain ⟨k1,k2,_⟩:=(YG hF.fb 25 i t hE).2 hno;obtain ⟨_,s2,s3,s4⟩:=KP hF.fb 25 i t hin hAt (by have:=EL t q;omega) hno
   generalize (gv F 25 i t).2=u at *
   refine ⟨k1.trans ih.l,k2.trans ih.a,fun p hp hSp => ?_,fun r hr h1 => ?_⟩
   ·by_cases e:t.S p
    ·obtain ⟨a1,a2⟩:=ih.cl p hp e;exact ⟨a1,fun v hv=>s2 _ (a2 v hv)⟩
    ·have:=s4 p hp hSp e
     rw [eA] at this;exact this
   ·by_cases e:r=i
    ·subst e;exact s3
    ·exact fun v hv=>s2 _ (ih.f r (by omega) h1 v hv)
  ·rename_i h0;refine ⟨ih.l,ih.a,ih.cl,fun r hr h1 => ?_⟩
   by_cases e:r=i
   ·subst e;rw [eL] at h0;exact absurd h1 h0
   ·exact ih.f r (by omega) h1
def dZ (l:List Nat):Nat->Nat->FD:=fun i _ => .int .i64 (l.getD i 0:Nat)
def cpB (t:LS)(r:Nat):Bool:=decide (0<=t.L r) && !(t.se (t.L r).toNat 0).b
def cpL (t:LS)(n:Nat):List Nat:=(List.range n).filter (cpB t)
def clL (t:LS)(n:Nat):List Nat:=(List.range n).filter fun p=>(t.se p 0).b
theorem yS {p:Nat->Bool} {n:Nat} {x:Nat} (h:x<n) (hp:p x=true):gL ((List.range n).filter p).length (dZ ((List.range n).filter p)) x=true:=by
 cases hb:gL ((List.range n).filter p).length (dZ ((List.range n).filter p)) x with
 | true=>rfl
 | false=>
  obtain ⟨i,hi,he⟩:=List.getElem_of_mem (List.mem_filter.2 ⟨List.mem_range.2 h,hp⟩);refine absurd ?_ (LY hb i hi)
  show ((((List.range n).filter p).getD i 0:Nat):Int)=x
  rw [List.getD_eq_getElem?_getD,List.getElem?_eq_getElem hi,he];rfl
theorem YH {p:Nat->Bool} {n:Nat} {x:Nat} (h:gL ((List.range n).filter p).length (dZ ((List.range n).filter p)) x=true):p x=true:=by
 obtain ⟨i,hi,he⟩:=xF h
 have he:((((List.range n).filter p).getD i 0:Nat):Int)=x:=he
 rw [List.getD_eq_getElem?_getD,List.getElem?_eq_getElem hi] at he;simp only [Option.getD_some] at he
 have hm:=List.getElem_mem hi
 have:=(List.mem_filter.1 hm).2
 have e:((List.range n).filter p)[i]=x:=by omega
 rw [e] at this;exact this
structure aez (np q:Nat) (F:Nat->Nat->FD) (t:LS) (c:Int):Prop where
 pl:aX (A2 q F t.pl) np=0
 n:i9 t.pl np=c
 cv:aX (I4 F (cpL t np).length (dZ (cpL t np)) (clL t q).length (dZ (clL t q))) np=0
 s:((cpL t np).length:Int)+(clL t q).length=c
theorem qW {e:Nat->Int} : ∀ {n:Nat},(∀ i,i<n->e i=0)->aX e n=0
 | 0,_=>rfl
 | n+1,h=>sH (qW fun i hi=>h i (by omega)) (h n (by omega))
theorem YI {np q:Nat} {F:Nat->Nat->FD} (hF:v8 np q F) (hq:q<=24):aez np q F (rcS F (blS F np) np) (blC F np):=by
 have h:=EK hF hq np (Nat.le_refl _)
 have k:=KQ hF hq h np (Nat.le_refl _)
 generalize blS F np=s at h k ⊢
 generalize blC F np=c at h ⊢
 generalize rcS F s np=t at k ⊢
 have eL : ∀ r,t.L r=s.L r:=fun r=>by show (t.pl r 0).i=_;rw [k.l]
 have eA : ∀ r,t.A r=s.A r:=fun r=>by show (t.pa r 0).i=_;rw [k.a]
 have m:Mt np q F t:=⟨fun r=>by rw [eL,eA];exact h.m.a r,fun p=>by rw [eA,eL];exact h.m.b p,fun r=>by rw [eL];exact h.m.c r⟩
 have cl:jQ q F t.S t:=fun p hp hSp=>by rw [eA];exact k.cl p hp hSp
 have f : ∀ r,r<np->t.L r<0->iV F t.S r:=fun r hr h0=>k.f r hr (by rw [←eL];exact h0)
 have hw:IntKind.i64.wrap ((q:Int)-1)=(q:Int)-1:=aO (by omega) (by omega)
 have hpl:aX (A2 q F t.pl) np=0:=qW fun i hi=>by
  by_cases e:(t.pl i 0).i = -1
  ·rw [A2,if_pos e]
  ·have h0:0<=t.L i:=by
    have:=m.c i hi
    have e:t.L i ≠ -1:=e
    omega
   obtain ⟨a1,a2,x,a3,a4⟩:=m.a i hi h0
   have hb:gL (F i 1).ln (F i 1).fn (t.pl i 0).i=true:=by
    cases hb:gL (F i 1).ln (F i 1).fn (t.pl i 0).i with
    | true=>rfl
    | false=>exact absurd a4 (LY hb x a3)
   have hn : ¬ gL i t.pl (t.pl i 0).i=true:=fun hh=>by
    obtain ⟨j,j1,j2⟩:=xF hh
    have j2:t.L j=t.L i:=j2
    obtain ⟨b1,b2,_⟩:=m.a j (by omega) (by omega)
    rw [j2,a2] at b2;omega
   have h0:0<=(t.pl i 0).i:=h0
   have a1:(t.pl i 0).i<q:=a1
   rw [A2,hw,if_neg e,if_pos ⟨h0,by omega⟩,if_pos hb,if_neg hn]
 have hn:i9 t.pl np=c:=by rw [k.l];exact h.n
 have hcv:aX (I4 F (cpL t np).length (dZ (cpL t np)) (clL t q).length (dZ (clL t q))) np=0:=qW fun i hi=>by
  rw [I4,if_pos];refine iK fun x hx => ?_
  rw [adq]
  cases hb:gL (cpL t np).length (dZ (cpL t np)) (i:Int) with
  | true=>rfl
  | false=>
   rw [Bool.false_or]
   have hnc:cpB t i=false:=by
    cases hc:cpB t i with
    | false=>rfl
    | true=>rw [show gL (cpL t np).length (dZ (cpL t np)) (i:Int)=true from yS hi hc] at hb;cases hb
   have hfi:iV F t.S i:=by
    by_cases h0:t.L i<0
    ·exact f i hi h0
    ·obtain ⟨a1,a2,_⟩:=m.a i hi (by omega)
     simp only [cpB,Bool.and_eq_false_iff,decide_eq_false_iff_not,Bool.not_eq_false'] at hnc
     have hS:t.S (t.L i).toNat:=by
      rcases hnc with h1 | h1
      ·omega
      ·exact h1
     have:=(cl (t.L i).toNat (by omega) hS).2
     rw [a2] at this
     simpa using this
   have hv:Fit F i ((F i 1).fn x 0).i:=⟨x,hx,rfl⟩
   obtain ⟨v0,v1⟩:=hF.fb i hi _ hv
   have hS:=hfi _ hv
   have:=yS (p:=fun p=>(t.se p 0).b) (n:=q) (x:=((F i 1).fn x 0).i.toNat) (by omega) hS
   rw [Int.toNat_of_nonneg v0] at this;exact this
 refine ⟨hpl,hn,hcv,?_⟩
 have h1:=ZT hpl hcv
 have h2:=rI (cpL t np).length (dZ (cpL t np)) t.pl np
 have a1:(cpL t np).length<=((List.range np).filter (inP (cpL t np).length (dZ (cpL t np)) t.pl)).length:=by
  refine rH (List.Pairwise.filter _ (List.nodup_range (n:=np))) fun r hr => ?_
  obtain ⟨r1,r2⟩:=List.mem_filter.1 hr;refine List.mem_filter.2 ⟨r1,?_⟩
  have hb:=yS (List.mem_range.1 r1) r2
  simp only [cpB,Bool.and_eq_true,decide_eq_true_eq] at r2
  have r3:0<=(t.pl r 0).i:=r2.1
  rw [inP,show gL (cpL t np).length (dZ (cpL t np)) (r:Int)=true from hb,decide_eq_false (by omega)]
  rfl
 have a2:((clL t q).map fun p=>(t.A p).toNat).length<=((List.range np).filter (noP (cpL t np).length (dZ (cpL t np)) t.pl)).length:=by
  have hin : ∀ p,p∈clL t q->p<q/\t.S p:=fun p hp=>⟨List.mem_range.1 (List.mem_filter.1 hp).1,(List.mem_filter.1 hp).2⟩
  refine rH ?_ fun r hr => ?_
  ·refine List.pairwise_map.2 (List.Pairwise.imp_of_mem ?_ (List.Pairwise.filter _ (List.nodup_range (n:=q))));intro a b ha hb hab e;obtain ⟨ha1,ha2⟩:=hin a ha;obtain ⟨hb1,hb2⟩:=hin b hb
   have e1:=(m.b a ha1 (cl a ha1 ha2).1).2
   have e2:=(m.b b hb1 (cl b hb1 hb2).1).2
   rw [e,e2] at e1;omega
  ·obtain ⟨p,hp,rfl⟩:=List.mem_map.1 hr;obtain ⟨p1,p2⟩:=hin p hp;obtain ⟨q1,q2⟩:=m.b p p1 (cl p p1 p2).1
   have h0:=(cl p p1 p2).1
   refine List.mem_filter.2 ⟨List.mem_range.2 (by omega),?_⟩
   have hnb:gL (cpL t np).length (dZ (cpL t np)) (((t.A p).toNat:Nat):Int)=false:=by
    cases hb:gL (cpL t np).length (dZ (cpL t np)) (((t.A p).toNat:Nat):Int) with
    | false=>rfl
    | true=>
     have:=YH hb
     simp only [cpB,Bool.and_eq_true,Bool.not_eq_true'] at this
     have h3:=this.2
     rw [q2,Int.toNat_natCast] at h3
     have p2:(t.se p 0).b=true:=p2
     rw [p2] at h3
     cases h3
   have q2:(t.pl (t.A p).toNat 0).i=p:=q2
   rw [noP,hnb,decide_eq_false (by omega)]
   rfl
 simp only [List.length_map] at a2;omega
theorem IJ {pc:Int} {n:Nat} {f:Nat->Nat->FD} (h:bJ pc n f=0) (hc:mW n f=true):(0<=pc/\pc<=24)/\n<=24/\v8 n pc.toNat f:=by
 have hp:=GK h
 obtain ⟨k1,k2⟩:=GE hc
 have hn:n<=24/\aX (bX pc f) n=0:=by
  rw [bJ,if_pos hp] at h;split at h
  ·exact ⟨by assumption,h⟩
  ·omega
 refine ⟨hp,hn.1,fun j hj=>⟨by have:=k2 j hj;omega,fun x hx => ?_⟩⟩
 have e:=fE hn.2 j hj
 rw [bX] at e;split at e
 ·split at e
  ·omega
  ·have e2:=fE e x hx
   have hw:IntKind.i64.wrap (pc-1)=pc-1:=aO (by omega) (by omega)
   rw [eU,hw] at e2;split at e2
   ·omega
   ·omega
 ·omega
theorem YJ {q np:Nat} {F:Nat->Nat->FD} (hF:v8 np q F) (hq:q<=24) {y:Nat} (hy:y<np):iU np F q (blS F y).fresh 25 (y:Int):=
 ⟨by omega,by omega,hF,fun p hp=>(EK hF hq y (by omega)).m.lt' p hp,by rw [o3];omega⟩
theorem YK {q np:Nat} {F:Nat->Nat->FD} (hF:v8 np q F) (hq:q<=24) {y:Nat} (hy:y<np):iU np F q (rcS F (blS F np) y) 25 (y:Int):=by
 have h:=EK hF hq np (Nat.le_refl _)
 have k:=KQ hF hq h y (by omega)
 exact ⟨by omega,by omega,hF,fun p hp=>by rw [k.a];exact h.m.lt' p hp,by have:=EL (rcS F (blS F np) y) q;omega⟩
theorem YL (F:Nat->Nat->FD) : ∀ i:Nat,0<=blC F i/\blC F i<=i
 | 0=>⟨Int.le_refl _,Int.le_refl _⟩
 | i+1=>by
  have:=YL F i
  simp only [blC];split<;>omega
theorem IK {p:Nat->Bool} (n:Nat):(List.range (n+1)).filter p=(List.range n).filter p++if p n=true then [n] else []:=by
 rw [List.range_succ,List.filter_append];simp only [List.filter];split<;>simp_all
theorem v9 {p:Nat->Bool} {y:Nat} (h:p y=true):(List.range (y+1)).filter p=(List.range y).filter p++[y]:=by rw [IK,if_pos h]
theorem eF {p:Nat->Bool} {y:Nat} (h:p y=false):(List.range (y+1)).filter p=(List.range y).filter p:=by rw [IK,if_neg (by rw [h];decide),List.append_nil]
theorem OE (l:List Nat)(y:Nat) : ∀ j,j<(l++[y]).length->dZ (l++[y]) j 0=bif Nat.blt j l.length then dZ l j 0 else bD [FD.int IntKind.i64 (y:Int)] 0:=by
 intro j hj
 cases h:Nat.blt j l.length with
 | true=>
  have h:j<l.length:=Nat.le_of_ble_eq_true h
  show FD.int .i64 (((l++[y]).getD j 0:Nat):Int)=FD.int .i64 ((l.getD j 0:Nat):Int)
  rw [List.getD_eq_getElem?_getD,List.getD_eq_getElem?_getD,List.getElem?_append_left h]
 | false=>
  have h1 : ¬ j<l.length:=fun hc=>by rw [show Nat.blt j l.length=true from Nat.ble_eq▸hc] at h;cases h
  have h2:j=l.length:=by simp at hj;omega
  subst h2
  show FD.int .i64 (((l++[y]).getD l.length 0:Nat):Int)=FD.int .i64 (y:Int)
  simp
variable {p:Nat->Bool} {n y:Nat} {Q:Nat->Prop}
theorem mS {y:Nat} (h:y<100000):((y+1:Nat):Int)=IntKind.i64.wrap ((y:Int)+1):=(aO (by omega) (by omega)).symm
theorem fs1 (hQ:Q (y+1)) (hy:y<n) (hn:n<=1000) (hp:p y=true) (hl:(List.range y).filter p=[]) : ∃ k,(Q k/\n-k<n-y)/\(k:Int)=IntKind.i64.wrap ((y:Int)+1)/\((List.range k).filter p).length=1 /\ ∀ j,j<((List.range k).filter p).length->dZ ((List.range k).filter p) j 0=bD [FD.int IntKind.i64 (y:Int)] 0:=by
 refine ⟨y+1,⟨hQ,by omega⟩,mS (by omega),by rw [v9 hp,hl];rfl,fun j hj => ?_⟩
 rw [v9 hp] at hj ⊢;rw [OE _ _ j hj,hl];rfl
theorem fs2 (hQ:Q (y+1)) (hy:y<n) (hn:n<=1000) : ∃ k:Nat,(Q k/\n-k<n-y)/\(k:Int)=IntKind.i64.wrap ((y:Int)+1):=⟨y+1,⟨hQ,by omega⟩,mS (by omega)⟩
theorem fs3 (hQ:Q (y+1)) (hy:y<n) (hn:n<=1000) (hp:p y=true) : ∃ k,(Q k/\n-k<n-y)/\(k:Int)=IntKind.i64.wrap ((y:Int)+1)/\((List.range k).filter p).length=((List.range y).filter p).length+1/\
  ∀ j,j<((List.range k).filter p).length->dZ ((List.range k).filter p) j 0=bif Nat.blt j ((List.range y).filter p).length then dZ ((List.range y).filter p) j 0 else bD [FD.int IntKind.i64 (y:Int)] 0:=by
 refine ⟨y+1,⟨hQ,by omega⟩,mS (by omega),by rw [v9 hp];simp,fun j hj => ?_⟩
 rw [v9 hp] at hj ⊢;exact OE _ _ j hj
theorem fs4 (hQ:Q (y+1)) (hy:y<n) (hn:n<=1000) (hp:p y=false) : ∃ k,(Q k/\n-k<n-y)/\(k:Int)=IntKind.i64.wrap ((y:Int)+1)/\((List.range k).filter p).length=((List.range y).filter p).length/\
  ∀ j,j<((List.range k).filter p).length->dZ ((List.range k).filter p) j 0=dZ ((List.range y).filter p) j 0:=by
 refine ⟨y+1,⟨hQ,by omega⟩,mS (by omega),by rw [eF hp],fun j _=>by rw [eF hp]⟩
theorem qX (p:Nat->Bool)(y:Nat)(h:y<=1000):((List.range y).filter p).length<=999999:=by
 have:=List.length_filter_le p (List.range y)
 simp at this;omega
theorem jR (hp:p y=true) : ¬ (List.range (y+1)).filter p=[]:=by rw [v9 hp];simp
theorem aeA {np q:Nat} {F:Nat->Nat->FD} (hF:v8 np q F) (hq:q<=24) : ∀ r,r<np->((rcS F (blS F np) np).pl r 0).i<q:=fun r hr=>by
 have h:=EK hF hq np (Nat.le_refl _)
 have k:=KQ hF hq h np (Nat.le_refl _)
 rw [k.l]
 rcases Int.lt_or_le ((blS F np).pl r 0).i 0 with h0 | h0
 ·omega
 ·exact (h.m.a r hr h0).1
end
end Go.Ex
