/-
 Stores into rows of rows.
-/
import Derived.Test.YtdpabnfcfakjeaaExR2
namespace Go.Ex
open Go Go.RowKit
open Nat (beq)
noncomputable section
theorem aF.mwrite {η:Env} {E:Emb} {hp:T Blk} {nx lo base:Nat} {w w':World} (h:aF η E hp nx lo base w) {b q:Nat} {e:TypeId} {s:Sh} {n x m:Nat} {f f':Nat->Nat->FD} (hb:hp.get b=some (.mat q e s n x m f)) {i B L:Nat} (hi:i<x) (hE:E.m q i=some (B,L))
  (p:w'.heap.size=w.heap.size) (l : ∀ k,k≠B->w'.heap[k]? = w.heap[k]?) (hin:C8 E w' s m (f' i) B L) (hf : ∀ i',i'≠i->f' i'=f i'):aF η E (hp.set b (some (.mat q e s n x m f'))) nx lo base w':=by
 have hn:b<65535:=by have:=h.dom b _ hb;have:=h.lim;omega
 have hB:MIn E hp B:=⟨b,q,e,s,n,x,m,f,i,L,hb,hi,hE⟩
 have hget : ∀ j c,(hp.set b (some (.mat q e s n x m f'))).get j=some c->(j=b/\c = .mat q e s n x m f')∨(j≠b/\hp.get j=some c):=by
  intro j c hj
  by_cases hjb:j=b
  ·subst hjb;rw [T.get_set_same _ _ _ hn] at hj
   cases hj;exact .inl ⟨rfl,rfl⟩
  ·rw [T.get_set_ne _ _ _ _ (Ne.symm hjb)] at hj;exact .inr ⟨hjb,hj⟩
 have hold : ∀ j c,(hp.set b (some (.mat q e s n x m f'))).get j=some c -> ∃ c',hp.get j=some c':=fun j c hj=>by
  rcases hget j c hj with ⟨rfl,_⟩ | ⟨_,hj⟩
  ·exact ⟨_,hb⟩
  ·exact ⟨_,hj⟩
 have hmat : ∀ j q1 e1 s1 n1 x1 m1 f1,(hp.set b (some (.mat q e s n x m f'))).get j=some (.mat q1 e1 s1 n1 x1 m1 f1) -> ∃ f2,hp.get j=some (.mat q1 e1 s1 n1 x1 m1 f2)/\(j≠b->f2=f1):=fun j q1 e1 s1 n1 x1 m1 f1 hj=>by
  rcases hget j _ hj with ⟨rfl,hc⟩ | ⟨hjb,hj⟩
  ·cases hc;exact ⟨f,hb,fun hne=>absurd rfl hne⟩
  ·exact ⟨f1,hj,fun _=>rfl⟩
 have hIn : ∀ C,MIn E (hp.set b (some (.mat q e s n x m f'))) C->MIn E hp C:=by
  rintro C ⟨j,q1,e1,s1,n1,x1,m1,f1,i1,L1,h1,h2,h3⟩;obtain ⟨f2,g1,_⟩:=hmat _ _ _ _ _ _ _ _ h1;exact ⟨j,q1,e1,s1,n1,x1,m1,f2,i1,L1,g1,h2,h3⟩
 have hne : ∀ j c C K,hp.get j=some c->E j=some (C,K)->C≠B:=fun j c C K hj hC eq=>by
  subst eq;exact h.mt.own C hB j c K hj hC
 refine ⟨fun j c hj => ?_,fun j c hj => ?_,fun j k c d C D K M hjk hj hk hC hD => ?_,h.hi,fun j C K hC=>by rw [p];exact h.top j C K hC,by rw [p];exact h.bot,h.free,h.lim,fun C o v hz => ?_,fun j c C K hj ho hC o => ?_,h.rfree,fun D o hD => ?_,h.rn,?_⟩
 ·obtain ⟨c',hc'⟩:=hold j c hj;exact h.dom j c' hc'
 ·rcases hget j c hj with ⟨rfl,rfl⟩ | ⟨_,hj⟩
  ·obtain ⟨C,K,h1,h2⟩:=h.cell _ _ hb;refine ⟨C,K,h1,?_⟩;rw [l C (hne _ _ C K hb h1)];exact h2
  ·obtain ⟨C,K,h1,h2⟩:=h.cell j c hj;exact ⟨C,K,h1,by rw [l C (hne _ _ C K hj h1)];exact h2⟩
 ·obtain ⟨c',hc'⟩:=hold j c hj;obtain ⟨d',hd'⟩:=hold k d hk;exact h.inj j k c' d' C D K M hjk hc' hd' hC hD
 ·have hCB:C≠B:=fun eq=>by subst eq;rw [h.mt.z C hB o] at hz;cases hz
  exact (World.cell?_of_block (a:=⟨C,o,none⟩) (l C hCB)).trans (h.zw C o v hz)
 ·rcases hget j c hj with ⟨rfl,_⟩ | ⟨_,hj⟩
  ·exact h.zd _ _ C K hb trivial hC o
  ·exact h.zd j c C K hj ho hC o
 ·obtain ⟨q1,q2,q3,q4⟩:=h.dk D o hD;refine ⟨q1,(l D fun eq => ?_).trans q2,q3,q4⟩
  subst eq;obtain ⟨_,_,_,_,_,_,k4,_⟩:=h.mt.row _ _ _ _ _ _ _ _ hb;obtain ⟨B',L',l1,_,c',e'',l3,_⟩:=k4 i hi;rw [hE] at l1;cases l1
  rcases q3 with q3 | ⟨_,q3⟩
  ·rw [q2] at l3;cases l3
   cases q3
  ·exact q3 _ _ _ hE
 ·refine ⟨h.mt.dom,fun q1 i1 C K hC=>by rw [p];exact h.mt.top q1 i1 C K hC,h.mt.hi,fun j q1 e1 s1 n1 x1 m1 f1 hj => ?_,fun C hC=>h.mt.z C (hIn C hC),fun C hC j c K hj hC' => ?_,?_,?_,?_⟩
  ·obtain ⟨f2,g1,g2⟩:=hmat _ _ _ _ _ _ _ _ hj;obtain ⟨C,K,c,k1,k2,k3,k4,k5⟩:=h.mt.row _ _ _ _ _ _ _ _ g1;refine ⟨C,K,c,k1,by rw [l C (hne _ _ C K g1 k1)];exact k2,k3,fun i1 hi1 => ?_,k5⟩
   obtain ⟨B',L',l1,l2,c',e',l3,l4,l5,l6,l7⟩:=k4 i1 hi1
   by_cases hjb:j=b
   ·subst hjb;rw [hb] at g1;cases g1
    rcases hget j _ hj with ⟨_,hc⟩ | ⟨hne',_⟩
    ·cases hc
     by_cases hii:i1=i
     ·subst hii;rw [hE] at l1;cases l1;exact ⟨B,L,hE,l2,hin⟩
     ·refine ⟨B',L',l1,l2,c',e',?_,l4,l5,l6,?_⟩
      ·rw [l B' fun eq => ?_]
       ·exact l3
       ·subst eq;exact hii (h.mt.inj _ _ _ _ _ _ _ _ _ _ _ _ _ _ _ _ _ _ _ _ _ hb hb hi1 hi l1 hE).2
      ·rw [hf i1 hii];exact l7
    ·exact absurd rfl hne'
   ·have e2:=g2 hjb
    subst e2;refine ⟨B',L',l1,l2,c',e',?_,l4,l5,l6,l7⟩;rw [l B' fun eq => ?_]
    ·exact l3
    ·subst eq
     have e1:=(h.mt.inj _ _ _ _ _ _ _ _ _ _ _ _ _ _ _ _ _ _ _ _ _ g1 hb hi1 hi l1 hE).1
     subst e1;exact hjb (h.mt.uni _ _ _ _ _ _ _ _ _ _ _ _ _ _ _ g1 hb)
  ·obtain ⟨c',hc'⟩:=hold j c hj;exact h.mt.own C (hIn C hC) j c' K hc' hC'
  ·intro b1 q1 e1 s1 n1 x1 m1 f1 b2 q2 e2 s2 n2 x2 m2 f2 i1 i2 C L1 L2 h1 h2 hi1 hi2 hE1 F;obtain ⟨g1,r1,_⟩:=hmat _ _ _ _ _ _ _ _ h1;obtain ⟨g2,r2,_⟩:=hmat _ _ _ _ _ _ _ _ h2;exact h.mt.inj _ _ _ _ _ _ _ _ _ _ _ _ _ _ _ _ _ _ _ _ _ r1 r2 hi1 hi2 hE1 F
  ·intro b1 q1 e1 s1 n1 x1 m1 f1 b2 e2 s2 n2 x2 m2 f2 h1 h2;obtain ⟨g1,r1,_⟩:=hmat _ _ _ _ _ _ _ _ h1;obtain ⟨g2,r2,_⟩:=hmat _ _ _ _ _ _ _ _ h2;exact h.mt.uni _ _ _ _ _ _ _ _ _ _ _ _ _ _ _ r1 r2
  ·intro b1 q1 e1 s1 n1 x1 m1 f1 h1;obtain ⟨g1,r1,_⟩:=hmat _ _ _ _ _ _ _ _ h1;exact h.mt.qlt _ _ _ _ _ _ _ _ r1
def Emb.mset (E:Emb)(q:Nat) (g:Nat->Option (Nat × Nat)):Emb:={ E with m:=fun q' i=>if q'=q then g i else E.m q' i }
def DT (E:Emb)(q0 x B2 L2 i:Nat):Option (Nat × Nat):=if i<x then E.m q0 i else if i=x then some (B2,L2) else none
theorem aaE {E:Emb} {q0 x B2 L2 i:Nat} (h:i<x):DT E q0 x B2 L2 i=E.m q0 i:=if_pos h
theorem aaF {E:Emb} {q0 x B2 L2:Nat}:DT E q0 x B2 L2 x=some (B2,L2):=by simp [DT]
theorem mH {E:Emb} {q0 x B2 L2 i C L:Nat} (h:DT E q0 x B2 L2 i=some (C,L)):(i<x/\E.m q0 i=some (C,L))∨(i=x/\C=B2/\L=L2):=by
 unfold DT at h;split at h
 ·rename_i h1;exact .inl ⟨h1,h⟩
 ·split at h
  ·rename_i h2;cases h;exact .inr ⟨h2,rfl,rfl⟩
  ·cases h
theorem gJ {E:Emb} {q:Nat} {g:Nat->Option (Nat × Nat)} (i:Nat):(E.mset q g).m q i=g i:=if_pos rfl
theorem gX {E:Emb} {q q':Nat} {g:Nat->Option (Nat × Nat)} (h:q'≠q) (i:Nat):(E.mset q g).m q' i=E.m q' i:=if_neg h
theorem aF.mput {η:Env} {E:Emb} {hp:T Blk} {nx lo base:Nat} {w w':World} (h:aF η E hp nx lo base w) {b b2:Nat} {blk:Blk} {e:TypeId} {s:Sh} {n x m:Nat} {f f':Nat->Nat->FD} {B K B2 L2:Nat} {c c':Array Value} {q0:Nat} {e2:TypeId} {g:Nat->Nat->FD}
  (hb:hp.get b=some blk) (ho:blk.own) (hE:E b=some (B,K)) (hnK:n<=K) (hK:K<=maxLen) (hb2:hp.get b2=some (.row e2 [s] m g)) (hbb:b2≠b) (F:E b2=some (B2,L2)) (hlo2:lo<=b2)
  (hrows : ∀ i,i<x -> ∃ B' L,E.m q0 i=some (B',L)/\c[i]? = some (.slice (some ⟨B',0,none⟩) m L)/\C8 E w s m (f i) B' L) (G : ∀ i,i<x -> ∀ C L,E.m q0 i=some (C,L)->MIn E hp C/\base<=C)
  (hinj : ∀ i i',i<x->i'<x -> ∀ C L L',E.m q0 i=some (C,L)->E.m q0 i'=some (C,L')->i=i') (hother : ∀ j q1 e1 s1 n1 x1 m1 f1,j≠b->hp.get j=some (.mat q1 e1 s1 n1 x1 m1 f1) -> ∀ i i',i<x->i'<x1 -> ∀ C L L',E.m q0 i=some (C,L)->E.m q1 i'=some (C,L')->False)
  (hx:x<n) (hnx:nx<65000) (hlo:lo<=nx) (p:w'.heap.size=w.heap.size) (l : ∀ k,k≠B->w'.heap[k]? = w.heap[k]?) (hB':w'.heap[B]? = some (.cells c' e (0,0))) (hcs:c'.size=K) (hcx:c'[x]? = some (.slice (some ⟨B2,0,none⟩) m L2)) (hco : ∀ i,i≠x->c'[i]? = c[i]?)
  (hf : ∀ i,i<x->f' i=f i) (hfx : ∀ k,f' x k=g k 0):
  aF η (E.mset nx (DT E q0 x B2 L2)) ((hp.set b2 none).set b (some (.mat nx e s n (x+1) m f'))) (nx+1) lo base w'/\E.le (E.mset nx (DT E q0 x B2 L2)):=by
 have hle:E.le (E.mset nx (DT E q0 x B2 L2)):=⟨fun _ _ h=>h,fun _ _ _ h=>h,fun _ _ _ h=>h,fun q i y hq=>by
  rw [gX (by have:=h.mt.dom q i y hq;omega)];exact hq⟩
 refine ⟨?_,hle⟩
 have hbn:b<nx:=h.dom b _ hb
 have hb2n:b2<nx:=h.dom b2 _ hb2
 have hget : ∀ j d,((hp.set b2 none).set b (some (.mat nx e s n (x+1) m f'))).get j=some d->(j=b/\d = .mat nx e s n (x+1) m f')∨(j≠b/\j≠b2/\hp.get j=some d):=by
  intro j d hj
  by_cases hjb:j=b
  ·subst hjb;rw [T.get_set_same _ _ _ (by omega)] at hj
   cases hj;exact .inl ⟨rfl,rfl⟩
  ·rw [T.get_set_ne _ _ _ _ (Ne.symm hjb)] at hj
   by_cases hj2:j=b2
   ·subst hj2;rw [T.get_set_same _ _ _ (by omega)] at hj
    cases hj
   ·rw [T.get_set_ne _ _ _ _ (Ne.symm hj2)] at hj;exact .inr ⟨hjb,hj2,hj⟩
 have hold : ∀ j d,((hp.set b2 none).set b (some (.mat nx e s n (x+1) m f'))).get j=some d -> ∃ d',hp.get j=some d'/\j≠b2:=fun j d hj=>by
  rcases hget j d hj with ⟨rfl,_⟩ | ⟨_,h2,hj⟩
  ·exact ⟨_,hb,Ne.symm hbb⟩
  ·exact ⟨_,hj,h2⟩
 have hBB:B2≠B:=h.inj b2 b _ _ _ _ _ _ hbb hb2 hb F hE
 have hnB : ∀ C,MIn E hp C->C≠B:=fun C hC eq=>by subst eq;exact h.mt.own _ hC b _ K hb hE
 have hnB2 : ∀ C,MIn E hp C->C≠B2:=fun C hC eq=>by subst eq;exact h.mt.own _ hC b2 _ L2 hb2 F
 have hqn : ∀ j q1 e1 s1 n1 x1 m1 f1,hp.get j=some (.mat q1 e1 s1 n1 x1 m1 f1)->q1≠nx:=fun j q1 e1 s1 n1 x1 m1 f1 hj=>by
  have:=h.mt.qlt _ _ _ _ _ _ _ _ hj;omega
 have hIn : ∀ C,MIn (E.mset nx (DT E q0 x B2 L2)) ((hp.set b2 none).set b (some (.mat nx e s n (x+1) m f'))) C->MIn E hp C∨C=B2:=by
  rintro C ⟨j,q1,e1,s1,n1,x1,m1,f1,i1,L1,h1,h2,h3⟩
  rcases hget j _ h1 with ⟨rfl,hc⟩ | ⟨_,_,hj⟩
  ·cases hc
   rw [gJ] at h3
   rcases mH h3 with ⟨k1,k2⟩ | ⟨_,k2,_⟩
   ·exact .inl (G i1 k1 C L1 k2).1
   ·exact .inr k2
  ·rw [gX (hqn _ _ _ _ _ _ _ _ hj)] at h3;exact .inl ⟨j,q1,e1,s1,n1,x1,m1,f1,i1,L1,hj,h2,h3⟩
 have hInB : ∀ C,MIn (E.mset nx (DT E q0 x B2 L2)) ((hp.set b2 none).set b (some (.mat nx e s n (x+1) m f'))) C->C≠B:=fun C hC=>by
  rcases hIn C hC with hC | rfl
  ·exact hnB C hC
  ·exact hBB
 have hne : ∀ j d C M,j≠b->hp.get j=some d->E j=some (C,M)->C≠B:=fun j d C M hj hd hC=>h.inj j b d blk C B M K hj hd hb hC hE
 have hin : ∀ {s1 m1 f1 C L},C≠B->C8 E w s1 m1 f1 C L->C8 (E.mset nx (DT E q0 x B2 L2)) w' s1 m1 f1 C L:=by
  rintro s1 m1 f1 C L hC ⟨c1,e1,k1,k2,k3,k4,k5⟩;exact ⟨c1,e1,by rw [l C hC];exact k1,k2,k3,k4,k5⟩
 have hz2 : ∀ o,E.z B2 o=none:=h.zd b2 _ B2 L2 hb2 trivial F
 refine ⟨fun j d hj => ?_,fun j d hj => ?_,fun j k d d' C D M M' hjk hj hk hC hD => ?_,h.hi,fun j C M hC=>by rw [p];exact h.top j C M hC,by rw [p];exact h.bot,fun i hi=>h.free i (by omega),by omega,fun C o v hz => ?_,fun j d C M hj hd hC o => ?_,fun k hk=>h.rfree k (by omega),fun D o hD => ?_,h.rn,?_⟩
 ·obtain ⟨d',hd',_⟩:=hold j d hj
  have:=h.dom j d' hd';omega
 ·rcases hget j d hj with ⟨rfl,rfl⟩ | ⟨hjb,_,hj⟩
  ·exact ⟨B,K,hE,c',hB',hcs,hnK,hK⟩
  ·obtain ⟨C,M,h1,h2⟩:=h.cell j d hj;exact ⟨C,M,h1,by rw [l C (hne j d C M hjb hj h1)];exact h2.mono hle⟩
 ·obtain ⟨e1,he1,_⟩:=hold j d hj;obtain ⟨e2,he2,_⟩:=hold k d' hk;exact h.inj j k e1 e2 C D M M' hjk he1 he2 hC hD
 ·have hCB:C≠B:=fun eq=>by subst eq;have:=h.zd b blk C K hb ho hE o;rw [show E.z C o=some v from hz] at this;cases this
  exact (World.cell?_of_block (a:=⟨C,o,none⟩) (l C hCB)).trans (h.zw C o v hz)
 ·rcases hget j d hj with ⟨rfl,_⟩ | ⟨hjb,_,hj⟩
  ·exact h.zd _ blk C M hb ho hC o
  ·exact h.zd j d C M hj hd hC o
 ·obtain ⟨q1,q2,q3,q4⟩:=h.dk D o hD;refine ⟨q1,(l D fun eq=>by subst eq;exact q4 b K hE).trans q2,q3.of (fun j v hv=>hv) (fun q i L hq => ?_),q4⟩
  by_cases hqn':q=nx
  ·subst hqn';rw [gJ] at hq
   rcases mH hq with ⟨_,k2⟩ | ⟨_,rfl,_⟩
   ·exact ⟨q0,i,L,k2⟩
   ·exact absurd F (q4 b2 L2)
  ·rw [gX hqn'] at hq;exact ⟨q,i,L,hq⟩
 ·refine ⟨fun q i y hq => ?_,fun q i C L hq => ?_,fun q i C L hql hq => ?_,fun j q1 e1 s1 n1 x1 m1 f1 hj => ?_,fun C hC o => ?_,fun C hC j d M hj hM => ?_,?_,?_,fun j q1 e1 s1 n1 x1 m1 f1 hj => ?_⟩
  ·by_cases hqn':q=nx
   ·omega
   ·rw [gX hqn'] at hq
    have:=h.mt.dom q i y hq;omega
  ·rw [p]
   by_cases hqn':q=nx
   ·subst hqn';rw [gJ] at hq
    rcases mH hq with ⟨_,k2⟩ | ⟨_,rfl,_⟩
    ·exact h.mt.top _ _ _ _ k2
    ·exact h.top _ _ _ F
   ·rw [gX hqn'] at hq;exact h.mt.top _ _ _ _ hq
  ·by_cases hqn':q=nx
   ·subst hqn';rw [gJ] at hq
    rcases mH hq with ⟨k1,k2⟩ | ⟨_,rfl,_⟩
    ·exact (G i k1 C L k2).2
    ·exact h.hi b2 _ _ hlo2 F
   ·rw [gX hqn'] at hq;exact h.mt.hi _ _ _ _ hql hq
  ·rcases hget j _ hj with ⟨rfl,hc⟩ | ⟨hjb,_,hj⟩
   ·cases hc
    refine ⟨B,K,c',hE,hB',hx,fun i hi => ?_,fun i hi=>⟨c'[i]'(by omega),Array.getElem?_eq_getElem _⟩⟩
    by_cases hix:i<x
    ·obtain ⟨C,L,k1,k2,k3⟩:=hrows i hix;refine ⟨C,L,by rw [gJ,aaE hix];exact k1,by rw [hco i (by omega)];exact k2,?_⟩
     rw [hf i hix];exact hin (hnB C (G i hix C L k1).1) k3
    ·have:i=x:=by omega
     subst this;refine ⟨B2,L2,by rw [gJ,aaF],hcx,?_⟩
     obtain ⟨C,M,k1,c2,k2,k3,k4,k5,_,k6⟩:=h.cell b2 _ hb2;rw [F] at k1;cases k1;refine ⟨c2,e2,by rw [l _ hBB];exact k2,by simpa using k3,k4,k5,fun k hk => ?_⟩
     obtain ⟨r1,u,r2,r3⟩:=k6 k hk 0 (by simp)
     rw [hfx k];exact ⟨r1,u,by simpa using r2,r3⟩
   ·obtain ⟨C,M,c1,k1,k2,k3,k4,k5⟩:=h.mt.row _ _ _ _ _ _ _ _ hj;refine ⟨C,M,c1,k1,by rw [l C (hne j _ C M hjb hj k1)];exact k2,k3,fun i hi => ?_,k5⟩
    obtain ⟨C',L',l1,l2,l3⟩:=k4 i hi;exact ⟨C',L',by rw [gX (hqn _ _ _ _ _ _ _ _ hj)];exact l1,l2,hin (hnB C' ⟨_,_,_,_,_,_,_,_,_,_,hj,hi,l1⟩) l3⟩
  ·rcases hIn C hC with hC | rfl
   ·exact h.mt.z C hC o
   ·exact hz2 o
  ·obtain ⟨d',hd',hj2⟩:=hold j d hj
   rcases hIn C hC with hC | rfl
   ·exact h.mt.own C hC j d' M hd' hM
   ·exact h.inj b2 j _ _ _ _ _ _ (Ne.symm hj2) hb2 hd' F hM rfl
  ·intro b1 q1 e1 s1 n1 x1 m1 f1 b3 q3 e3 s3 n3 x3 m3 f3 i1 i3 C L1 L3 h1 h3 hi1 hi3 hE1 hE3
   rcases hget b1 _ h1 with ⟨hb1,hc⟩ | ⟨hjb,_,g1⟩<;>rcases hget b3 _ h3 with ⟨hb3,hc3⟩ | ⟨hjb3,_,g3⟩
   ·cases hc;cases hc3
    refine ⟨rfl,?_⟩;rw [gJ] at hE1 hE3
    rcases mH hE1 with ⟨k1,k2⟩ | ⟨k1,k2,_⟩<;>rcases mH hE3 with ⟨k3,k4⟩ | ⟨k3,k4,_⟩
    ·exact hinj _ _ k1 k3 _ _ _ k2 k4
    ·exact absurd k4 (hnB2 C (G _ k1 _ _ k2).1)
    ·exact absurd k2 (hnB2 C (G _ k3 _ _ k4).1)
    ·omega
   ·cases hc
    rw [gJ] at hE1;rw [gX (hqn _ _ _ _ _ _ _ _ g3)] at hE3
    rcases mH hE1 with ⟨k1,k2⟩ | ⟨k1,k2,_⟩
    ·exact (hother _ _ _ _ _ _ _ _ hjb3 g3 _ _ k1 hi3 _ _ _ k2 hE3).elim
    ·exact absurd k2 (hnB2 C ⟨_,_,_,_,_,_,_,_,_,_,g3,hi3,hE3⟩)
   ·cases hc3
    rw [gJ] at hE3;rw [gX (hqn _ _ _ _ _ _ _ _ g1)] at hE1
    rcases mH hE3 with ⟨k1,k2⟩ | ⟨k1,k2,_⟩
    ·exact (hother _ _ _ _ _ _ _ _ hjb g1 _ _ k1 hi1 _ _ _ k2 hE1).elim
    ·exact absurd k2 (hnB2 C ⟨_,_,_,_,_,_,_,_,_,_,g1,hi1,hE1⟩)
   ·rw [gX (hqn _ _ _ _ _ _ _ _ g1)] at hE1;rw [gX (hqn _ _ _ _ _ _ _ _ g3)] at hE3;exact h.mt.inj _ _ _ _ _ _ _ _ _ _ _ _ _ _ _ _ _ _ _ _ _ g1 g3 hi1 hi3 hE1 hE3
  ·intro b1 q1 e1 s1 n1 x1 m1 f1 b3 e3 s3 n3 x3 m3 f3 h1 h3
   rcases hget b1 _ h1 with ⟨hb1,hc⟩ | ⟨hjb,_,g1⟩<;>rcases hget b3 _ h3 with ⟨hb3,hc3⟩ | ⟨hjb3,_,g3⟩
   ·exact hb1.trans hb3.symm
   ·cases hc;exact absurd rfl (hqn _ _ _ _ _ _ _ _ g3)
   ·cases hc3;exact absurd rfl (hqn _ _ _ _ _ _ _ _ g1)
   ·exact h.mt.uni _ _ _ _ _ _ _ _ _ _ _ _ _ _ _ g1 g3
  ·rcases hget j _ hj with ⟨rfl,hc⟩ | ⟨_,_,hj⟩
   ·cases hc;omega
   ·have:=h.mt.qlt _ _ _ _ _ _ _ _ hj;omega
theorem aJ.mset (E:Emb)(n:Nat) (g:Nat->Option (Nat × Nat)):aJ E (E.mset n g) n:=⟨fun _ _=>rfl,fun _ _ _=>rfl,fun _ _ _ h=>h,fun _ _ h=>h,rfl,fun _ hq i=>gX (by omega) i⟩
theorem t5 {C:Cx} {P:Program} {η:Env} (hC:C.Ok P η) {w:World} {t:TypeId} {ti:TI} (hti:C.tt.get t=some ti) (hs:ti.size=1) {o:Oper} {a:Act} {x v:Operand} (ho:o.op = .store t x v) {B k:Nat} {cc:Array Value} {e:TypeId}
  (ep:a.eval x = .pointer (some ⟨B,k,none⟩)) (h1:w.heap[B]? = some (.cells cc e (0,0))) (hlt:k<cc.size) {E:Emb} {c:Sc} (hv:c.den η E=some (a.eval v)):(execOp a.eval o).run P w = .ok .skip (w.setCell ⟨B,k,none⟩ (a.eval v)):=by
 obtain ⟨dst,op,type,pos,after,guard⟩:=o;simp only at ho;subst ho
 have hone:=Sc.den_cells hv
 have hcell:w.cell? ⟨B,k,none⟩=some (cc[k]'hlt):=by
  rw [cell_of_row w B _ cc e (0,0) h1];simp [hlt]
 have hf:w.frozen? ⟨B,k,none⟩=false:=frozen_of_row w B _ cc e h1
 have hns : ¬ (a.eval v).cells.size≠ti.size:=by rw [hone.1,hs];simp
 have hst:(store ⟨B,k,none⟩ (a.eval v)).run P w = .ok () (w.setCell ⟨B,k,none⟩ (a.eval v)):=by
  rw [run_store P w _ _ _ hone.2];simp [hcell,hf]
 have hadd:(⟨B,k,none⟩:Addr).add 0=⟨B,k,none⟩:=by rw [bM,Nat.add_zero]
 simp only [execOp,Instr.storeAt,ep,Instr.sureAddr,storeVar,Sem.run_bind,Sem.run_pure,Result.andThen_ok,(hC.tt t ti hti).run_size,if_neg hns];simp [hone.1,storeCells,hadd,hst]
def NQ (f:Nat->Nat->FD)(x:Nat)(g:Nat->Nat->FD):Nat->Nat->FD:=fun i k=>bif beq i x then g k 0 else f i k
theorem aaG {f g:Nat->Nat->FD} {x i:Nat} (h:i≠x):NQ f x g i=f i:=by
 funext k
 simp [NQ,fL,h]
theorem TF {f g:Nat->Nat->FD} {x:Nat} (k:Nat):NQ f x g x k=g k 0:=by simp [NQ,fL]
def DU (C:Cx)(tm:T Sv)(hp:T Blk)(nx lo:Nat)(t:TypeId)(x v:Operand):Option (Bool × T Blk × Nat):=
 match evX tm x,evX tm v,C.tt.get t with
 | some (.one (.rptr b sz i j)),some (.one (.own b2 k)),some ti=>match hp.get b,hp.get b2 with
  | some (.row e cs n _),some (.row _ [s] m g)=>bif Nat.ble lo b2&&Nat.ble lo b && !(beq b2 b)&&beq ti.size 1&&beq sz 1&&beq cs.length 1&&beq j 0&&Nat.blt nx 65000 then
    some (beq i 0&&Nat.blt 0 n&&beq k m,(hp.set b2 none).set b (some (.mat nx e s n (0+1) m (NQ (fun _ _ => .bool false) 0 g))),nx+1) else none
  | some (.mat q e s n x m f),some (.row _ [s2] m2 g)=>bif Nat.ble lo b2&&Nat.ble lo b && !(beq b2 b)&&beq ti.size 1&&beq sz 1&&Nat.ble lo q&&beq j 0&&Nat.blt nx 65000&&shB s s2 then
    some (beq i x&&Nat.blt x n&&beq k m&&beq m m2,(hp.set b2 none).set b (some (.mat nx e s n (x+1) m (NQ f x g))),nx+1) else none
  | _,_=>none
 | some (.one (.mptr b q i j)),some (.one c),some ti=>match Q1 c,hp.get b with
  | some (s',d),some (.mat q' e s n x m f)=>bif beq q q'&&Nat.ble lo q'&&beq ti.size 1&&shB s s' then some (Nat.blt i x&&Nat.blt j m,hp.set b (some (.mat q' e s n x m (lP f i j d))),nx) else none
  | _,_=>none
 | _,_,_=>none
theorem J6 {C:Cx} {P:Program} {η:Env} {E:Emb} (hC:C.Ok P η) {hp:T Blk} {nx lo base:Nat} {w w0:World} (hH:aF η E hp nx lo base w) (hB:Below base w0 w) (hlo:lo<=nx) {tm:T Sv} {a:Act} {o:Oper} {t:TypeId} {x v:Operand} (ho:o.op = .store t x v)
  (hx : ∀ x∈o.op.operands,nI η E tm a x) {r:Bool × T Blk × Nat} (h:DU C tm hp nx lo t x v=some r) (hck:r.1=true):
  ∃ w' E',(execOp a.eval o).run P w = .ok .skip w'/\aJ E E' nx/\E.le E'/\nx<=r.2.2/\aF η E' r.2.1 r.2.2 lo base w'/\Below base w0 w':=by
 unfold DU at h;split at h
 ·rename_i b sz i j b2 k ti hsx hsv hti
  have ex:=hx x (by rw [ho];simp [Op.operands]) _ hsx
  have ev:=hx v (by rw [ho];simp [Op.operands]) _ hsv
  obtain ⟨B,K,hE,ep⟩:=vP ex;obtain ⟨B2,L2,F,evv,hkL⟩:=iQ ev;split at h
  ·rename_i e cs n f e2 s m g hb hb2
   cases hc:(Nat.ble lo b2&&Nat.ble lo b && !(beq b2 b)&&beq ti.size 1&&beq sz 1&&beq cs.length 1&&beq j 0&&Nat.blt nx 65000) with
   | false=>rw [hc] at h;cases h
   | true=>
    rw [hc] at h;cases h;simp only [Bool.and_eq_true,Bool.not_eq_true'] at hc hck;obtain ⟨⟨⟨⟨⟨⟨⟨c1,c2⟩,c3⟩,c4⟩,c5⟩,c6⟩,c7⟩,c8⟩:=hc;obtain ⟨⟨k1,k2⟩,k3⟩:=hck
    have c1:=Nat.le_of_ble_eq_true c1
    have c2:=Nat.le_of_ble_eq_true c2
    have c3:=Nat.ne_of_beq_eq_false c3
    have c4:=Nat.eq_of_beq_eq_true c4
    have c5:=Nat.eq_of_beq_eq_true c5
    have c6:=Nat.eq_of_beq_eq_true c6
    have c7:=Nat.eq_of_beq_eq_true c7
    have c8:=Nat.le_of_ble_eq_true c8
    have k1:=Nat.eq_of_beq_eq_true k1
    have k2:=Nat.le_of_ble_eq_true k2
    have k3:=Nat.eq_of_beq_eq_true k3
    subst c5 c7 k1 k3;obtain ⟨B',K',hE',cc,h1,h2,h3,h4,h5,h6⟩:=hH.cell b _ hb;rw [hE] at hE';cases hE';rw [c6] at h2
    have hlt:0*1+0<cc.size:=by omega
    have hex:=t5 hC hti c4 ho ep h1 hlt (E:=E) (c := .own b2 k) ev
    have hh:=heap_setCell_same w B (0*1+0) cc e (a.eval v) h1
    obtain ⟨g1,g2⟩:=aF.mput hH (w':=w.setCell ⟨B,0*1+0,none⟩ (a.eval v)) (b:=b) (b2:=b2) (n:=n) (x:=0) (f:=fun _ _ => .bool false) (f':=NQ (fun _ _ => .bool false) 0 g) (q0:=0) (c:=cc) (s:=s) hb trivial hE h3 h4 hb2 c3 F c1
     (fun i hi=>by omega) (fun i hi=>by omega) (fun i i' hi=>by omega) (fun _ _ _ _ _ _ _ _ _ _ i i' hi=>by omega) (by omega) (by omega) hlo
     (kH.setCell w ⟨B,0*1+0,none⟩ (a.eval v)).size (kH.setCell w ⟨B,0*1+0,none⟩ (a.eval v)).oth hh (by simpa using h2) (by rw [evv,Array.getElem?_setIfInBounds_self_of_lt (by omega)]) (fun i hi=>by rw [Array.getElem?_setIfInBounds_ne (by omega)]) (fun i hi=>by omega) (fun k=>TF k)
    exact ⟨_,_,hex,aJ.mset _ _ _,g2,Nat.le_succ _,g1,(kH.setCell w _ (a.eval v)).below hB (hH.hi b B K c2 hE)⟩
  ·rename_i q e s n x' m f e2 s2 m2 g hb hb2
   cases hc:(Nat.ble lo b2&&Nat.ble lo b && !(beq b2 b)&&beq ti.size 1&&beq sz 1&&Nat.ble lo q&&beq j 0&&Nat.blt nx 65000&&shB s s2) with
   | false=>rw [hc] at h;cases h
   | true=>
    rw [hc] at h;cases h;simp only [Bool.and_eq_true,Bool.not_eq_true'] at hc hck;obtain ⟨⟨⟨⟨⟨⟨⟨⟨c1,c2⟩,c3⟩,c4⟩,c5⟩,c6⟩,c7⟩,c8⟩,c9⟩:=hc;obtain ⟨⟨⟨k1,k2⟩,k3⟩,k4⟩:=hck
    have c1:=Nat.le_of_ble_eq_true c1
    have c2:=Nat.le_of_ble_eq_true c2
    have c3:=Nat.ne_of_beq_eq_false c3
    have c4:=Nat.eq_of_beq_eq_true c4
    have c5:=Nat.eq_of_beq_eq_true c5
    have c6:=Nat.le_of_ble_eq_true c6
    have c7:=Nat.eq_of_beq_eq_true c7
    have c8:=Nat.le_of_ble_eq_true c8
    have c9:=J8 _ _ c9
    have k1:=Nat.eq_of_beq_eq_true k1
    have k2:=Nat.le_of_ble_eq_true k2
    have k3:=Nat.eq_of_beq_eq_true k3
    have k4:=Nat.eq_of_beq_eq_true k4
    subst c5 c7 k1 k3 c9 k4;obtain ⟨B',K',hE',cc,h1,h2,h3,h4⟩:=hH.cell b _ hb;rw [hE] at hE';cases hE';obtain ⟨B',K',cc',hE',h5,h6,h7,h8⟩:=hH.mt.row _ _ _ _ _ _ _ _ hb;rw [hE] at hE';cases hE';rw [h1] at h5;cases h5
    have hlt:i*1+0<cc.size:=by omega
    have hex:=t5 hC hti c4 ho ep h1 hlt (E:=E) (c := .own b2 k) ev
    have hh:=heap_setCell_same w B (i*1+0) cc e (a.eval v) h1
    obtain ⟨g1,g2⟩:=aF.mput hH (w':=w.setCell ⟨B,i*1+0,none⟩ (a.eval v)) (b:=b) (b2:=b2) (n:=n) (x:=i) (f:=f) (f':=NQ f i g) (q0:=q) (c:=cc) (s:=s) hb trivial hE h3 h4 hb2 c3 F c1
     h7 (fun i' hi C L hC=>⟨⟨_,_,_,_,_,_,_,_,_,_,hb,hi,hC⟩,hH.mt.hi _ _ _ _ c6 hC⟩) (fun i1 i2 hi1 hi2 C L L' hC1 hC2=>(hH.mt.inj _ _ _ _ _ _ _ _ _ _ _ _ _ _ _ _ _ _ _ _ _ hb hb hi1 hi2 hC1 hC2).2)
     (fun j' q1 e1 s1 n1 x1 m1 f1 hj' hb' i1 i2 hi1 hi2 C L L' hC1 hC2=>by
      have e1:=(hH.mt.inj _ _ _ _ _ _ _ _ _ _ _ _ _ _ _ _ _ _ _ _ _ hb hb' hi1 hi2 hC1 hC2).1
      subst e1;exact hj' (hH.mt.uni _ _ _ _ _ _ _ _ _ _ _ _ _ _ _ hb' hb)) (by omega) (by omega) hlo
     (kH.setCell w ⟨B,i*1+0,none⟩ (a.eval v)).size (kH.setCell w ⟨B,i*1+0,none⟩ (a.eval v)).oth hh (by simpa using h2) (by rw [evv,show i*1+0=i by omega,Array.getElem?_setIfInBounds_self_of_lt (by omega)]) (fun i' hi=>by rw [Array.getElem?_setIfInBounds_ne (by omega)]) (fun i' hi=>aaG (by omega)) (fun k=>TF k)
    exact ⟨_,_,hex,aJ.mset _ _ _,g2,Nat.le_succ _,g1,(kH.setCell w _ (a.eval v)).below hB (hH.hi b B K c2 hE)⟩
  ·cases h
 ·rename_i b q i j c ti hsx hsv hti
  have ex:=hx x (by rw [ho];simp [Op.operands]) _ hsx
  have ev:c.den η E=some (a.eval v):=hx v (by rw [ho];simp [Op.operands]) _ hsv
  split at h
  ·rename_i s' d q' e s n x' m f hfd hb
   cases hc:(beq q q'&&Nat.ble lo q'&&beq ti.size 1&&shB s s') with
   | false=>rw [hc] at h;cases h
   | true=>
    rw [hc] at h;cases h;simp only [Bool.and_eq_true] at hc hck;obtain ⟨⟨⟨c1,c2⟩,c3⟩,c4⟩:=hc;obtain ⟨k1,k2⟩:=hck
    have c1:=Nat.eq_of_beq_eq_true c1
    have c2:=Nat.le_of_ble_eq_true c2
    have c3:=Nat.eq_of_beq_eq_true c3
    have c4:=J8 _ _ c4
    have k1:i<x':=Nat.le_of_ble_eq_true k1
    have k2:j<m:=Nat.le_of_ble_eq_true k2
    subst c1 c4;obtain ⟨q1,q2⟩:=vU hfd ev;obtain ⟨B,K,cc,hE,h1,h2,h3,h4⟩:=hH.mt.row _ _ _ _ _ _ _ _ hb;obtain ⟨B',L,l1,l2,c',e',l3,l4,l5,l6,l7⟩:=h3 i k1
    have ep:a.eval x = .pointer (some ⟨B',j,none⟩):=by
     simp only [Sv.den,Sc.den,l1,Option.map_some] at ex;exact (Option.some.inj ex).symm
    have hex:=t5 hC hti c3 ho ep l3 (by omega) (E:=E) (c:=c) ev
    have hh:=heap_setCell_same w B' j c' e' (a.eval v) l3
    refine ⟨_,E,hex,aJ.refl _ _,⟨fun _ _ h=>h,fun _ _ _ h=>h,fun _ _ _ h=>h,fun _ _ _ h=>h⟩,Nat.le_refl _,?_,(kH.setCell w _ (a.eval v)).below hB (hH.mt.hi _ _ _ _ c2 l1)⟩
    refine hH.mwrite hb k1 l1 (kH.setCell w ⟨B',j,none⟩ (a.eval v)).size (kH.setCell w ⟨B',j,none⟩ (a.eval v)).oth ⟨_,_,hh,by simpa using l4,l5,l6,fun k hk => ?_⟩ (fun i' hi'=>by funext k;simp [lP,fL,hi'])
    obtain ⟨r1,u,r2,r3⟩:=l7 k hk
    by_cases hkj:k=j
    ·subst hkj;simp only [lP,fL,decide_true,Bool.and_self,cond_true];exact ⟨q1,a.eval v,Array.getElem?_setIfInBounds_self_of_lt (by omega),q2⟩
    ·simp only [lP,fL,hkj,decide_false,Bool.and_false,cond_false];exact ⟨r1,u,by rw [Array.getElem?_setIfInBounds_ne (by omega)];exact r2,r3⟩
  ·cases h
 ·cases h
end
end Go.Ex
