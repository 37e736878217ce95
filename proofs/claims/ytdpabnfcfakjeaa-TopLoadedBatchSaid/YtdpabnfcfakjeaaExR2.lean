/-
 Appending plain data that are terms; storing into rows of the executor's own; freezing a row.
-/
import Derived.Test.YtdpabnfcfakjeaaEx12
namespace Go.Ex
open Go Go.RowKit
open Nat (ble beq)
noncomputable section
open Classical in
theorem aF.freeze {η:Env} {E:Emb} {hp:T Blk} {nx lo base:Nat} {w:World} (h:aF η E hp nx lo base w) {b:Nat} {e:TypeId} {cs:List Sh} {n:Nat} {f:Nat->Nat->FD} {B K:Nat}
  (hb:hp.get b=some (.row e cs n f)) (hlb:lo<=b) (hE:E b=some (B,K)):
  ∃ E2:Emb,E.le E2/\E2.b=E.b/\(∀ m,aJ E E2 m)/\aF η E2 (hp.set b none) nx lo base w/\bK E2.z (.list cs n f) (.slice (some ⟨B,0,none⟩) n K):=by
 have hbn:b<65535:=by have:=h.dom b _ hb;have:=h.lim;omega
 have hsub : ∀ i c,(hp.set b none).get i=some c->i≠b/\hp.get i=some c:=by
  intro i c hi
  by_cases hib:i=b
  ·subst hib;rw [T.get_set_same _ _ _ hbn] at hi;cases hi
  ·rw [T.get_set_ne _ _ _ _ (Ne.symm hib)] at hi;exact ⟨hib,hi⟩
 have hz : ∀ o,E.z B o=none:=fun o=>h.zd b _ B K hb trivial hE o
 let E2:Emb:={ E with z:=fun C o=>if C=B then w.cell? ⟨B,o,none⟩ else E.z C o }
 have hle:E.le E2:=⟨fun _ _ h=>h,fun _ _ _ h=>h,fun C o v hv=>by
  show (if C=B then w.cell? ⟨B,o,none⟩ else E.z C o)=some v
  split
  ·rename_i hC;subst hC;rw [hz o] at hv;cases hv
  ·exact hv,fun _ _ _ h=>h⟩
 refine ⟨E2,hle,rfl,fun m=>⟨fun _ _=>rfl,fun _ _ _=>rfl,hle.z,fun _ _ h=>h,rfl,fun _ _ _=>rfl⟩,?_,?_⟩
 ·refine ⟨fun i c hi=>h.dom i c (hsub i c hi).2,fun i c hi => ?_,fun i j c d B' C K' L hij hi hj=>h.inj i j c d B' C K' L hij (hsub i c hi).2 (hsub j d hj).2,h.hi,h.top,h.bot,h.free,h.lim,fun C o v hv => ?_,fun i c C L hi ho hEi o => ?_,h.rfree,fun D o hD=>⟨(h.dk D o hD).1,(h.dk D o hD).2.1,(h.dk D o hD).2.2.1.of (fun j v hv=>by
   have hv:(if D=B then w.cell? ⟨B,j,none⟩ else E.z D j)=some v:=hv
   rw [if_neg (fun e=>(h.dk D o hD).2.2.2 b K (by rw [e];exact hE))] at hv
   exact hv) (fun q i L h=>⟨q,i,L,h⟩),(h.dk D o hD).2.2.2⟩,⟨h.rn.1,fun C o v hC hv => ?_⟩,?_⟩
  ·obtain ⟨C,L,h1,h2⟩:=h.cell i c (hsub i c hi).2;exact ⟨C,L,h1,h2.mono hle⟩
  ·have hv:(if C=B then w.cell? ⟨B,o,none⟩ else E.z C o)=some v:=hv
   split at hv
   ·rename_i hC;subst hC;exact hv
   ·exact h.zw C o v hv
  ·obtain ⟨hib,hi⟩:=hsub i c hi
   have hEi:E i=some (C,L):=hEi
   show (if C=B then w.cell? ⟨B,o,none⟩ else E.z C o)=none
   rw [if_neg (h.inj i b c _ C B L K hib hi hb hEi hE)];exact h.zd i c C L hi ho hEi o
  ·have hv:(if C=B then w.cell? ⟨B,o,none⟩ else E.z C o)=some v:=hv
   have:=h.hi b B K hlb hE
   rw [if_neg (by omega)] at hv
   exact h.rn.2 C o v hC hv
  ·refine h.mt.keep (fun _ _=>rfl) (Nat.le_refl _) h.mt.hi (Nat.le_refl _) (fun b' q' e' s' n' x' m' f' hg=>⟨(hsub _ _ hg).2,rfl⟩) hle.z (fun _ _=>rfl) (fun _ _=>rfl) (fun C hC o => ?_) (fun C hC j c K' hj hE'=>h.mt.own C hC j c K' (hsub _ _ hj).2 hE')
   show (if C=B then w.cell? ⟨B,o,none⟩ else E.z C o)=none
   rw [if_neg (fun e=>h.mt.own C hC b _ K hb (by rw [e];exact hE))]
   exact h.mt.z C hC o
 ·obtain ⟨B',K',hE',c,h1,h2,h3,h4,h5,h6⟩:=h.cell b _ hb;rw [hE] at hE';cases hE';refine ⟨_,_,rfl,h3,h4,.inr ⟨B,0,rfl,fun i hi j hj => ?_⟩⟩
  obtain ⟨k1,u,k2,k3⟩:=h6 i hi j hj;refine ⟨k1,u,?_,k3.mono hle.z⟩
  show (if B=B then w.cell? ⟨B,0+(i*cs.length+j),none⟩ else _)=some u
  rw [if_pos rfl,Nat.zero_add,cell_of_row w B _ c e (0,0) h1,k2]
mutual
def shB:Sh->Sh->Bool
 | .bool,.bool=>true
 | .int k,.int k'=>decide (k=k')
 | .str,.str=>true
 | .list a,.list b=>shL a b
 | _,_=>false
def shL:List Sh->List Sh->Bool
 | [],[]=>true
 | a::l,b::m=>shB a b&&shL l m
 | _,_=>false
end
mutual
theorem J8 : ∀ (a b:Sh),shB a b=true->a=b
 | .bool,.bool,_=>rfl
 | .int k,.int k',h=>by simp only [shB,decide_eq_true_eq] at h;rw [h]
 | .str,.str,_=>rfl
 | .list a,.list b,h=>by simp only [shB] at h;rw [J9 a b h]
 | .bool,.int _,h=>by simp [shB] at h
 | .bool,.str,h=>by simp [shB] at h
 | .bool,.list _,h=>by simp [shB] at h
 | .int _,.bool,h=>by simp [shB] at h
 | .int _,.str,h=>by simp [shB] at h
 | .int _,.list _,h=>by simp [shB] at h
 | .str,.bool,h=>by simp [shB] at h
 | .str,.int _,h=>by simp [shB] at h
 | .str,.list _,h=>by simp [shB] at h
 | .list _,.bool,h=>by simp [shB] at h
 | .list _,.int _,h=>by simp [shB] at h
 | .list _,.str,h=>by simp [shB] at h
theorem J9 : ∀ (a b:List Sh),shL a b=true->a=b
 | [],[],_=>rfl
 | a::l,b::m,h=>by
  simp only [shL,Bool.and_eq_true] at h;rw [J8 a b h.1,J9 l m h.2]
 | [],_::_,h=>by simp [shL] at h
 | _::_,[],h=>by simp [shL] at h
end
theorem NX {C:Cx} {P:Program} {η:Env} {E:Emb} (hC:C.Ok P η) {hp:T Blk} {nx lo base:Nat} {w w0:World} (hH:aF η E hp nx lo base w) (hB:Below base w0 w) {t e:TypeId} {ti ei:TI} (hti:C.tt.get t=some ti) (hd:ti.d = .slice e) (hei:C.tt.get e=some ei)
  (c1:0<ei.size) (c2:ei.bytes<=1000) (hnx:nx+1<=65000) {n m cp:Nat} {xs nv:List Value} {v:Value} {A:Addr} (hown:w.ownsRow base e ei.size v n xs) (hm:0<m) (hnm:n+m<=1000000)
  (hl:nv.length=m*ei.size) (hnews : ∀ j u,nv[j]? = some u->w.cell? (A.add j)=some u) (h1 : ∀ u∈nv,u.oneCell'=true)
  (hne : ∀ B,v.ownBlock=some B -> ∀ i b C K,hp.get i=some b->E i=some (C,K)->C≠B) (hz0 : ∀ B,v.ownBlock=some B -> ∀ o,E.z B o=none) (hni : ∀ B,v.ownBlock=some B -> ¬ MIn E hp B) (hei' : ∀ B,v.ownBlock=some B -> ∃ i K,E i=some (B,K))
  {blk:Blk} (hblk : ∀ g cap (cur:Array Value),cur.size=cap*ei.size->n+m<=cap->cap<=maxLen->cur.toList.take ((n+m)*ei.size)=xs++nv->blk.Rel η (E.set nx (g,cap)) cap (some (.cells cur e (0,0)))) (ho:blk.own) (ty:TypeId) (hbm:blk.noM:=by trivial):
  ∃ w' v' E' g cap,(Builtin.append_ #[t,t] ty #[v,.slice (some A) m cp]).run P w = .ok v' w'/\v' = .slice (some ⟨g,0,none⟩) (n+m) cap/\n+m<=cap/\E'=E.set nx (g,cap)/\E.le E'/\aF η E' (hp.set nx (some blk)) (nx+1) lo base w'/\Below base w0 w':=by
 have hu:=(hC.tt t ti hti).und
 rw [hd] at hu;obtain ⟨i,z,i1,i2,i3,i4,i5,i6,_⟩:=(hC.tt e ei hei).inf;obtain ⟨v',w',g1,g2,g3,g4,g5⟩:=run_append_own_at (P:=P) w base t ty e i z ei.size ei.bytes hu i1 i4 i2 i3 i6 c1 v n xs hown A m cp nv hl hnews h1 (by simp only [maxLen];omega)
  (Nat.le_trans (Nat.mul_le_mul hnm c2) (by decide)) hH.bot
 obtain ⟨k1,k2⟩:=g2
 rcases k2 with ⟨_,k3⟩ | ⟨g,cap,cur,rfl,k4,k5,k6,k7,k8,k9⟩
 ·omega
 have hgnew : ∀ i b C K,hp.get i=some b->E i=some (C,K)->C≠g:=by
  intro i b C K hi hE;simp only [Value.ownBlock] at g5
  rcases g5 with g5 | g5
  ·exact hne g g5.symm i b C K hi hE
  ·have:=hH.top i C K hE
   cases g5;omega
 have hfree:E nx=none:=hH.free nx (Nat.le_refl _)
 have hle:E.le (E.set nx (g,cap)):=Emb.le_set hfree
 refine ⟨w',_,E.set nx (g,cap),g,cap,g1,rfl,k6,rfl,hle,?_,?_⟩
 ·have hget : ∀ i b,(hp.set nx (some blk)).get i=some b->(i=nx/\b=blk)∨(i≠nx/\hp.get i=some b):=by
   intro i b hi
   by_cases hin:i=nx
   ·subst hin;rw [T.get_set_same _ _ _ (by omega)] at hi
    cases hi;exact .inl ⟨rfl,rfl⟩
   ·rw [T.get_set_ne _ _ _ _ (Ne.symm hin)] at hi;exact .inr ⟨hin,hi⟩
  refine ⟨?_,?_,?_,?_,?_,?_,?_,hnx,?_,?_,fun k hk=>hH.rfree k (by omega),fun D o hD=>⟨(hH.dk D o hD).1,(g3.block D (Array.getElem?_eq_some_iff.1 (hH.dk D o hD).2.1).1 (fun e=>by obtain ⟨i,K,hE⟩:=hei' D e.symm;exact (hH.dk D o hD).2.2.2 i K hE)).trans (hH.dk D o hD).2.1,(hH.dk D o hD).2.2.1,(fun i L hE'=>by
           obtain ⟨_,hd1,hd2,hd3⟩:=hH.dk D o hD
           by_cases hin:i=nx
           ·subst hin;rw [Emb.set_same] at hE';cases hE';simp only [Value.ownBlock] at g5
            rcases g5 with g5 | g5
            ·obtain ⟨j,K,hE⟩:=hei' g g5.symm;exact hd3 j K hE
            ·have:=(Array.getElem?_eq_some_iff.1 hd1).1
             cases g5;omega
           ·rw [Emb.set_ne _ _ hin] at hE';exact hd3 i L hE')⟩,hH.rn,hH.mt.keep (fun _ _=>rfl) (Nat.le_succ _) hH.mt.hi g3.size (fun b' q' e' s' n' x' m' f' hg=>by
           rcases hget b' _ hg with ⟨_,hb⟩ | ⟨hne',hg⟩
           ·subst hb;exact hbm.elim
           ·exact ⟨hg,Emb.set_ne _ _ hne'⟩) (fun _ _ _ h=>h) (fun B ⟨b',q',e',s',n',x',m',f',K',hg,hE'⟩=>g3.block B (hH.top b' B K' hE') (fun e=>hne B e.symm b' _ B K' hg hE' rfl)) (fun B hB=>g3.block B (hB.lt hH.mt) (fun e=>hni B e.symm hB)) hH.mt.z (fun B hB j c' K' hj hE'=>by
           rcases hget j c' hj with ⟨ej,_⟩ | ⟨hne',hj'⟩
           ·subst ej;rw [Emb.set_same] at hE'
            cases hE'
            simp only [Value.ownBlock] at g5
            rcases g5 with g5 | g5
            ·exact hni _ g5.symm hB
            ·have:=hB.lt hH.mt
             cases g5;omega
           ·rw [Emb.set_ne _ _ hne'] at hE';exact hH.mt.own B hB j c' K' hj' hE')⟩
  ·intro i b hi
   rcases hget i b hi with ⟨rfl,_⟩ | ⟨_,hi⟩
   ·omega
   ·have:=hH.dom i b hi;omega
  ·intro i b hi
   rcases hget i b hi with ⟨rfl,rfl⟩ | ⟨hin,hi⟩
   ·refine ⟨g,cap,Emb.set_same ..,?_⟩;rw [k5];exact hblk g cap cur k8 k6 k7 k9
   ·obtain ⟨C,K,hE,hr⟩:=hH.cell i b hi;refine ⟨C,K,by rw [Emb.set_ne _ _ hin];exact hE,?_⟩
    rw [g3.block C (hH.top i C K hE) (fun e=>hne C e.symm i b C K hi hE rfl)]
    exact hr.mono hle
  ·intro i j b d B C K L hij hi hj hEi hEj
   rcases hget i b hi with ⟨ei',_⟩ | ⟨hin,hi'⟩<;>rcases hget j d hj with ⟨ej',_⟩ | ⟨hjn,hj'⟩
   ·exact absurd (ei'.trans ej'.symm) hij
   ·subst ei';rw [Emb.set_same] at hEi;rw [Emb.set_ne _ _ hjn] at hEj
    cases hEi
    exact (hgnew j d C L hj' hEj).symm
   ·subst ej';rw [Emb.set_same] at hEj;rw [Emb.set_ne _ _ hin] at hEi
    cases hEj
    exact hgnew i b B K hi' hEi
   ·rw [Emb.set_ne _ _ hin] at hEi;rw [Emb.set_ne _ _ hjn] at hEj;exact hH.inj i j b d B C K L hij hi' hj' hEi hEj
  ·intro i B K hi hE
   by_cases hin:i=nx
   ·subst hin;rw [Emb.set_same] at hE;cases hE;exact k4
   ·rw [Emb.set_ne _ _ hin] at hE;exact hH.hi i B K hi hE
  ·intro i B K hE
   by_cases hin:i=nx
   ·subst hin;rw [Emb.set_same] at hE;cases hE;exact (Array.getElem?_eq_some_iff.1 k5).1
   ·rw [Emb.set_ne _ _ hin] at hE;exact Nat.lt_of_lt_of_le (hH.top i B K hE) g3.size
  ·exact Nat.le_trans hH.bot g3.size
  ·intro i hi;rw [Emb.set_ne _ _ (by omega)];exact hH.free i (by omega)
  ·intro B o u hz
   have hz:E.z B o=some u:=hz
   refine (World.cell?_of_block (a:=⟨B,o,none⟩) (g3.block B (hH.zlt hz) (fun e => ?_))).trans (hH.zw B o u hz)
   rw [hz0 B e.symm o] at hz;cases hz
  ·intro i b B K hi ho hE o
   rcases hget i b hi with ⟨rfl,_⟩ | ⟨hin,hi⟩
   ·rw [Emb.set_same] at hE;cases hE;simp only [Value.ownBlock] at g5
    rcases g5 with g5 | g5
    ·exact hz0 g g5.symm o
    ·show E.z g o=none
     cases hzz:E.z g o with
     | none=>rfl
     | some u=>have:=hH.zlt hzz;cases g5;omega
   ·rw [Emb.set_ne _ _ hin] at hE;exact hH.zd i b B K hi ho hE o
 ·refine hB.grown g3 hH.bot (fun k hk => ?_)
  rcases hown.2 with ⟨h0,_⟩ | ⟨g',cap',cur',hv',hb',_⟩
  ·rw [h0] at hk;cases hk
  ·rw [hv'] at hk;simp only [Value.ownBlock,Option.some.injEq] at hk;omega
theorem A5 {P:Program} {w:World} {t ty e:TypeId} {i:TypeInfo} (ht:P.underlying t=some (.slice e)) (hi:P.info? e=some i) (a b:Option Addr) (n cap c:Nat) (hn:n<=cap):
  (Builtin.append_ #[t,t] ty #[.slice a n cap,.slice b 0 c]).run P w = .ok (.slice a n cap) w:=by
 cases a<;>cases b<;>simp [Builtin.append_,run_underlying ht,sizeOf,typeInfo,hi,Builtin.lenOf,Builtin.firstCells,hn,storeCells,loadCells,loadCellsFrom]
structure Src where
 ss:List Sh
 m:Nat
 g:Nat->Nat->FD
 m0:Option Bool
 ck:Bool
 frz:Option Nat
def acZ (C:Cx)(hp:T Blk)(e:TypeId)(sx:Sv):Option Src:=
 match sx with
 | .one (.fz _ (.list cs m g))=>some ⟨cs,m,g,some (beq m 0),true,none⟩
 | .one (.own b n)=>match hp.get b with
  | some (.row _ cs n' f)=>some ⟨cs,n,f,some (beq n 0),beq n n',none⟩
  | _=>none
 | sx=>match Z8 C hp e sx with
  | some ([.own b n],1)=>match hp.get b with
   | some (.row _ cs n' f)=>some ⟨[.list cs],1,fun _ _ => .list cs n' f,none,beq n n',some b⟩
   | _=>none
  | some (news,1)=>match qC news with
   | some (ss,ds)=>some ⟨ss,1,fun _ j=>bD ds j,none,true,none⟩
   | none=>none
  | _=>none
def nM (hp:T Blk)(o:Option Nat):T Blk:=
 match o with
 | none=>hp
 | some b=>hp.set b none
def DY (z:Nat->Nat->Option Value)(ss:List Sh)(m:Nat)(g:Nat->Nat->FD)(nv:List Value):Prop:=
 ∀ i,i<m -> ∀ j,j<ss.length->(jW ss j).ex (g i j)=g i j /\ ∃ u,nv[i*ss.length+j]? = some u/\bK z (g i j) u
theorem DY.one {z:Nat->Nat->Option Value} {ss:List Sh} {m:Nat} {g:Nat->Nat->FD} {nv:List Value} (h:DY z ss m g nv) (hl:nv.length=m*ss.length) : ∀ u∈nv,u.oneCell'=true:=by
 intro u hu;obtain ⟨k,hk,rfl⟩:=List.getElem_of_mem hu
 have hs:0<ss.length:=by
  rcases Nat.eq_zero_or_pos ss.length with h0 | h0
  ·rw [h0,Nat.mul_zero] at hl;omega
  ·exact h0
 have hi:k / ss.length<m:=by rw [Nat.div_lt_iff_lt_mul hs];omega
 obtain ⟨_,u,h1,h2⟩:=h (k / ss.length) hi (k%ss.length) (Nat.mod_lt _ hs)
 have e:k / ss.length*ss.length+k%ss.length=k:=by rw [Nat.mul_comm];exact Nat.div_add_mod k ss.length
 rw [e,List.getElem?_eq_getElem hk] at h1
 cases h1
 exact h2.one.2
theorem DY.mono {z z':Nat->Nat->Option Value} (hz : ∀ B o v,z B o=some v->z' B o=some v) {ss:List Sh} {m:Nat} {g:Nat->Nat->FD} {nv:List Value} (h:DY z ss m g nv):DY z' ss m g nv:=fun i hi j hj=>by
 obtain ⟨h1,u,h2,h3⟩:=h i hi j hj;exact ⟨h1,u,h2,h3.mono hz⟩
theorem XV {C:Cx} {η:Env} {E:Emb} {hp:T Blk} {nx lo base:Nat} {w:World} (hH:aF η E hp nx lo base w) {e:TypeId} {ei:TI} (hei:C.tt.get e=some ei) {sx:Sv} {s:Src} {va:Value} (h:acZ C hp e sx=some s) (hx:sx.den η E=some va) (hck:s.ck=true) (hss:s.ss.length=ei.size) (hlf : ∀ b,s.frz=some b->lo<=b):
  ∃ E2 a c,E.le E2/\E2.b=E.b/\(∀ m,aJ E E2 m)/\aF η E2 (nM hp s.frz) nx lo base w/\va = .slice a s.m c/\(∀ b,s.m0=some b->b=beq s.m 0)/\(s.m0=none->0<s.m)/\
   (0<s.m -> ∃ A nv,a=some A/\nv.length=s.m*s.ss.length/\(∀ j u,nv[j]? = some u->w.cell? (A.add j)=some u)/\DY E2.z s.ss s.m s.g nv):=by
 unfold acZ at h;split at h
 ·rename_i r cs m g
  cases h
  obtain ⟨h1,a,c,rfl,h3,h4,h5⟩:=aP.1 hx;refine ⟨E,a,c,Emb.le.refl E,rfl,fun m=>aJ.refl E m,hH,rfl,(fun b hb=>by cases hb;rfl),(fun e=>by cases e),fun hm => ?_⟩
  rcases h5 with h5 | ⟨B,o,rfl,h5⟩
  ·subst h5;cases hm
  refine ⟨⟨B,o,none⟩,(List.range (m*cs.length)).map fun k=>(E.z B (o+k)).getD Go.undef,rfl,by simp,fun j u hj => ?_,fun i hi j hj => ?_⟩
  ·rw [List.getElem?_map] at hj
   by_cases hlt:j<m*cs.length
   ·rw [List.getElem?_range hlt] at hj;simp only [Option.map_some,Option.some.injEq] at hj
    have hcs:0<cs.length:=by
     rcases Nat.eq_zero_or_pos cs.length with h0 | h0
     ·rw [h0,Nat.mul_zero] at hlt;omega
     ·exact h0
    obtain ⟨_,u',k2,_⟩:=h5 (j / cs.length) (by rw [Nat.div_lt_iff_lt_mul hcs];exact hlt) (j%cs.length) (Nat.mod_lt _ hcs)
    have e:j / cs.length*cs.length+j%cs.length=j:=by rw [Nat.mul_comm];exact Nat.div_add_mod j cs.length
    rw [e] at k2;rw [k2] at hj;simp only [Option.getD_some] at hj;subst hj;rw [bM];exact hH.zw _ _ _ k2
   ·rw [List.getElem?_eq_none (by simpa using hlt)] at hj;cases hj
  ·have hi:i<m:=hi
   have hj:j<cs.length:=hj
   obtain ⟨k1,u,k2,k3⟩:=h5 i hi j hj
   have hlt:i*cs.length+j<m*cs.length:=by
    have:(i+1)*cs.length<=m*cs.length:=Nat.mul_le_mul_right _ hi
    rw [Nat.add_mul] at this;omega
   exact ⟨k1,u,by rw [List.getElem?_map,List.getElem?_range hlt];simp [k2],k3⟩
 ·rename_i b n;split at h
  ·rename_i e' cs n' f hb
   cases h
   have hn:n=n':=Nat.eq_of_beq_eq_true hck
   subst hn;obtain ⟨B,K,hE,rfl,hnK⟩:=iQ hx;obtain ⟨B',K',hE',c,h1,h2,h3,h4,h5,h6⟩:=hH.cell b _ hb;rw [hE] at hE';cases hE'
   have hcl:c.toList.length=K*cs.length:=by rw [←h2];exact Array.length_toList
   refine ⟨E,_,_,Emb.le.refl E,rfl,fun m=>aJ.refl E m,hH,rfl,(fun b hb=>by cases hb;rfl),(fun e=>by cases e),fun hm => ?_⟩
   refine ⟨⟨B,0,none⟩,c.toList.take (n*cs.length),rfl,?_,fun j u hj => ?_,fun i hi j hj => ?_⟩
   ·show (c.toList.take (n*cs.length)).length=n*cs.length
    rw [List.length_take,hcl];exact Nat.min_eq_left (Nat.mul_le_mul_right _ h3)
   ·rw [bM,Nat.zero_add]
    have hj:(c.toList.take (n*cs.length))[j]? = some u:=hj
    have hlt:j<n*cs.length:=by
     rcases Nat.lt_or_ge j (n*cs.length) with h | h
     ·exact h
     ·rw [List.getElem?_eq_none (by rw [List.length_take];omega)] at hj;cases hj
    rw [List.getElem?_take,if_pos hlt,Array.getElem?_toList] at hj;simp [World.cell?,h1,hj]
   ·obtain ⟨k1,u,k2,k3⟩:=h6 i hi j hj;refine ⟨k1,u,?_,k3⟩
    have hj:j<cs.length:=hj
    have hi:i<n:=hi
    have hlt:i*cs.length+j<n*cs.length:=by
     have:(i+1)*cs.length<=n*cs.length:=Nat.mul_le_mul_right _ hi
     rw [Nat.add_mul] at this;omega
    show (c.toList.take (n*cs.length))[i*cs.length+j]? = some u
    rw [List.getElem?_take,if_pos hlt,Array.getElem?_toList];exact k2
  ·cases h
 ·split at h
  ·rename_i b n hs;split at h
   ·rename_i e2 cs n' f hb
    cases h
    have hn:n=n':=Nat.eq_of_beq_eq_true hck
    subst hn;obtain ⟨A,c,nv,rfl,g1,g2,g3⟩:=CG hH hei hs (by omega) hx
    obtain ⟨v,us,d1,d2,rfl⟩:=aR g1
    cases d2
    obtain ⟨B,K,hE,rfl,hnK⟩:=iQ (η:=η) (b:=b) (n:=n) d1;obtain ⟨E2,f1,f2,f3,f4,f5⟩:=hH.freeze hb (hlf _ rfl) hE;refine ⟨E2,some A,c,f1,f2,f3,f4,rfl,(fun b hb=>by cases hb),(fun _=>Nat.one_pos),fun _=>⟨A,_,rfl,by simp,g3,fun i hi j hj => ?_⟩⟩
    have hi:i=0:=by simp at hi;exact hi
    have hj:j=0:=by simp at hj;exact hj
    subst hi;subst hj;exact ⟨rfl,_,rfl,f5⟩
   ·cases h
  ·rename_i news hne hs;split at h
   ·rename_i ss ds hl
    cases h
    obtain ⟨A,c,nv,rfl,g1,g2,g3⟩:=CG hH hei hs (by omega) hx
    obtain ⟨q1,q2⟩:=lN hl g1
    have hnl:=bC g1
    refine ⟨E,some A,c,Emb.le.refl E,rfl,fun m=>aJ.refl E m,hH,rfl,(fun b hb=>by cases hb),(fun _=>Nat.one_pos),fun _=>⟨A,nv,rfl,by simp only [Nat.one_mul];omega,g3,fun i hi j hj => ?_⟩⟩
    have hi:i=0:=by simp at hi;exact hi
    subst hi;obtain ⟨k1,u,k2,k3⟩:=q2 j (by omega)
    exact ⟨k1,u,by simpa using k2,k3⟩
   ·cases h
  ·cases h
structure Dst where
 n:Nat
 f:Option (Nat->Nat->FD)
 ss:Option (List Sh)
 ck:Bool
 drop:Option Nat
def aaO (hp:T Blk)(lo:Nat)(e:TypeId)(sz:Nat)(s:Sv):Option Dst:=
 match s with
 | .one (.slice none 0 (.known 0))=>some ⟨0,none,none,true,none⟩
 | .one (.slice (some (b,0)) 0 (.rest 0))=>match hp.get b with
  | some (.cells e' sz' [])=>bif ble lo b&&(beq e e'&&beq sz sz') then some ⟨0,none,none,true,some b⟩ else none
  | _=>none
 | .one (.own b n)=>match hp.get b with
  | some (.row e' cs n' f)=>bif ble lo b&&beq e e' then some ⟨n',some f,some cs,beq n n',some b⟩ else none
  | _=>none
 | _=>none
theorem XW {η:Env} {E:Emb} {hp:T Blk} {nx lo base:Nat} {w:World} (hH:aF η E hp nx lo base w) {e:TypeId} {sz:Nat} (hsz:0<sz) {s:Sv} {d:Dst} {va:Value} (h:aaO hp lo e sz s=some d) (hx:s.den η E=some va) (hck:d.ck=true) (hss : ∀ l,d.ss=some l->l.length=sz):
  ∃ xs,w.ownsRow base e sz va d.n xs/\(d.f=none->d.n=0)/\(∃ a cap,va = .slice a d.n cap/\d.n<=cap)/\(∀ f,d.f=some f -> ∃ l,d.ss=some l/\DY E.z l d.n f xs)/\
   (∀ B,va.ownBlock=some B -> ∃ b K blk,d.drop=some b/\E b=some (B,K)/\hp.get b=some blk/\blk.own):=by
 unfold aaO at h;split at h
 ·cases h;cases hx
  exact ⟨[],World.ownsRow_nil w base e sz,fun _=>rfl,⟨none,0,rfl,Nat.le_refl _⟩,(fun f hf=>by cases hf),(fun B hB=>by simp [Value.ownBlock] at hB)⟩
 ·rename_i b;split at h
  ·rename_i e' sz' hb
   cases hc:(ble lo b&&(beq e e'&&beq sz sz')) with
   | false=>rw [hc] at h;cases h
   | true=>
    rw [hc] at h;cases h;obtain ⟨d1,d2⟩:=bR hc;obtain ⟨d2,d3⟩:=bR d2
    have d1:=Nat.le_of_ble_eq_true d1
    have d2:=Nat.eq_of_beq_eq_true d2
    have d3:=Nat.eq_of_beq_eq_true d3
    subst d2;subst d3;obtain ⟨B,K,cap,hE,rfl,_,hcap⟩:=fH hx;obtain ⟨hcap,hnK⟩:=hcap 0 rfl;simp only [Nat.sub_zero] at hcap;subst hcap;obtain ⟨B',K',hE',cc,vs,rest,q1,q2,q3,q4,q5⟩:=hH.cell b _ hb;rw [hE] at hE';cases hE'
    cases q4
    refine ⟨[],⟨by simp,.inr ⟨B,cap,cc,rfl,hH.hi b B cap d1 hE,q1,by omega,q3,q2,by simp⟩⟩,fun _=>rfl,⟨_,cap,rfl,by omega⟩,(fun f hf=>by cases hf),fun B' hB' => ?_⟩
    simp only [Value.ownBlock,Option.some.injEq] at hB';subst hB';exact ⟨b,cap,_,rfl,hE,hb,trivial⟩
  ·cases h
 ·rename_i b n;split at h
  ·rename_i e' cs n' f hb
   cases hc:(ble lo b&&beq e e') with
   | false=>rw [hc] at h;cases h
   | true=>
    rw [hc] at h;cases h;obtain ⟨d1,d2⟩:=bR hc
    have d1:=Nat.le_of_ble_eq_true d1
    have d2:=Nat.eq_of_beq_eq_true d2
    subst d2
    have hn:n=n':=Nat.eq_of_beq_eq_true hck
    subst hn
    have hl:=hss cs rfl
    subst hl;obtain ⟨B,K,hE,rfl,hnK⟩:=iQ hx;obtain ⟨B',K',hE',c,h1,h2,h3,h4,h5,h6⟩:=hH.cell b _ hb;rw [hE] at hE';cases hE';refine ⟨c.toList.take (n*cs.length),⟨?_,.inr ⟨B,K,c,rfl,hH.hi b B K d1 hE,h1,h3,h4,h2,rfl⟩⟩,fun hf=>(by cases hf),⟨_,K,rfl,h3⟩,fun g hg=>⟨cs,rfl,?_⟩,fun B' hB' => ?_⟩
    ·have hcl:c.toList.length=K*cs.length:=by rw [←h2];exact Array.length_toList
     show (c.toList.take (n*cs.length)).length=n*cs.length
     rw [List.length_take,hcl];exact Nat.min_eq_left (Nat.mul_le_mul_right _ h3)
    ·cases hg
     intro i hi j hj;obtain ⟨k1,u,k2,k3⟩:=h6 i hi j hj;refine ⟨k1,u,?_,k3⟩
     have hlt:i*cs.length+j<n*cs.length:=by
      have:(i+1)*cs.length<=n*cs.length:=Nat.mul_le_mul_right _ hi
      rw [Nat.add_mul] at this;omega
     rw [List.getElem?_take,if_pos hlt,Array.getElem?_toList];exact k2
    ·simp only [Value.ownBlock,Option.some.injEq] at hB';subst hB';exact ⟨b,K,_,rfl,hE,hb,trivial⟩
  ·cases h
 ·cases h
def VG (f:Nat->Nat->FD)(n:Nat)(g:Nat->Nat->FD):Nat->Nat->FD:=fun i j=>bif Nat.blt i n then f i j else g (i-n) j
structure aer where
 ck:Bool
 m0:Option Bool
 hp:T Blk
 sv:Sv
 zero:Sv
 hp0:T Blk
def NY (hp:T Blk)(lo:Nat)(e:TypeId)(cs:List Sh)(g:Nat->Nat->FD)(ss:Sv):T Blk × Sv:=
 match ss with
 | .one (.slice (some (b,0)) 0 (.rest 0))=>match hp.get b with
  | some (.cells e' sz [])=>bif ble lo b&&(beq e e'&&(beq sz cs.length&&Nat.blt 0 cs.length)) then (hp.set b (some (.row e cs 0 g)),.one (.own b 0)) else (hp,ss)
  | _=>(hp,ss)
 | _=>(hp,ss)
theorem H7 {η:Env} {E:Emb} {hp:T Blk} {nx lo base:Nat} {w:World} (hH:aF η E hp nx lo base w) {e:TypeId} {cs:List Sh} {g:Nat->Nat->FD} {ss:Sv} {v:Value} (hv:ss.den η E=some v):aF η E (NY hp lo e cs g ss).1 nx lo base w/\(NY hp lo e cs g ss).2.den η E=some v:=by
 unfold NY;split
 ·rename_i b;split
  ·rename_i e' sz hb
   cases hc:(ble lo b&&(beq e e'&&(beq sz cs.length&&Nat.blt 0 cs.length))) with
   | false=>exact ⟨hH,hv⟩
   | true=>
    simp only [Bool.and_eq_true] at hc;obtain ⟨c1,c2,c3,c4⟩:=hc
    have c2:=Nat.eq_of_beq_eq_true c2
    have c3:=Nat.eq_of_beq_eq_true c3
    have c4:0<cs.length:=Nat.le_of_ble_eq_true c4
    subst c2;subst c3;obtain ⟨B,K,hE,c,vs,rest,k1,k2,k3,k4,k5⟩:=hH.cell b _ hb;refine ⟨hH.write hb hE rfl (fun _ _=>rfl) ⟨c,k1,k2,Nat.zero_le _,k3,c4,fun i hi=>absurd hi (Nat.not_lt_zero _)⟩,?_⟩
    simp only [Sv.den,Sc.den,bV,hE,Option.map_some] at hv
    show (Sv.one (.own b 0)).den η E=some v
    rw [JZ hE (Nat.zero_le _),←hv];simp
  ·exact ⟨hH,hv⟩
 ·exact ⟨hH,hv⟩
def KA (C:Cx)(tm:T Sv)(hp:T Blk)(nx lo:Nat)(ts:List TypeId)(args:List Operand):Option aer:=
 match ts,args with
 | [t,t'],[s,x]=>bif beq t t' then match evX tm s,evX tm x,C.tt.get t with
  | some ss,some sx,some ti=>match ti.d with
   | .slice e=>match C.tt.get e,acZ C hp e sx with
    | some ei,some src=>match aaO hp lo e ei.size ss with
     | some d=>bif Nat.blt 0 ei.size&&ble ei.bytes 1000&&beq src.ss.length ei.size&&(match d.ss with | some l=>shL l src.ss | none=>true)&&(match src.frz,d.drop with | some a,some b => !beq a b | _,_=>true)&&(match src.frz with | some a=>ble lo a | none=>true) then
       some ⟨d.ck&&(src.ck&&ble (d.n+src.m) 1000000),src.m0,
        (nM (nM hp src.frz) d.drop).set nx (some (.row e src.ss (d.n+src.m) (match d.f with | some f=>VG f d.n src.g | none=>src.g))),.one (.own nx (d.n+src.m)),(NY hp lo e src.ss src.g ss).2,(NY hp lo e src.ss src.g ss).1⟩
      else none
     | none=>none
    | _,_=>none
   | _=>none
  | _,_,_=>none
  else none
 | _,_=>none
theorem VH {hp:T Blk} {o:Option Nat} {i:Nat} {b:Blk} (hi:i<65535) (h:(nM hp o).get i=some b):hp.get i=some b/\o≠some i:=by
 cases o with
 | none=>exact ⟨h,by simp⟩
 | some k=>
  simp only [nM] at h
  by_cases hk:k=i
  ·subst hk;rw [T.get_set_same _ _ _ hi] at h;cases h
  ·rw [T.get_set_ne _ _ _ _ hk] at h;exact ⟨h,fun e=>hk (by cases e;rfl)⟩
theorem NZ {hp:T Blk} {o:Option Nat} {i:Nat} (h:o≠some i):(nM hp o).get i=hp.get i:=by
 cases o with
 | none=>rfl
 | some k=>exact T.get_set_ne _ _ _ _ (fun e=>h (by rw [e]))
theorem N0 {C:Cx} {P:Program} {η:Env} {E:Emb} (hC:C.Ok P η) {hp:T Blk} {nx lo base:Nat} {w w0:World} (hH:aF η E hp nx lo base w) (hB:Below base w0 w) {tm:T Sv} {a:Act} {o:Oper} {c:Call} {r:aer} (ho:o.op = .call c) (hcal:c.callee = .builtin .append)
  (hx : ∀ x∈o.op.operands,nI η E tm a x) (hnx:nx+1<=65000) (h:KA C tm hp nx lo c.argTypes.toList c.args.toList=some r) (hck:r.ck=true):
  (r.m0=some true -> ∃ v,(execOp a.eval o).run P w = .ok (.value v) w/\r.zero.den η E=some v/\aF η E r.hp0 nx lo base w)/\
  (r.m0≠some true -> ∃ w' v E',(execOp a.eval o).run P w = .ok (.value v) w'/\aJ E E' nx/\E.le E'/\aF η E' r.hp (nx+1) lo base w'/\r.sv.den η E'=some v/\Below base w0 w'):=by
 obtain ⟨dst,op,type,pos,after,guard⟩:=o;simp only at ho hx;subst ho;unfold KA at h;split at h
 ·rename_i t t' s x hts hargs
  have ets:c.argTypes = #[t,t']:=by rw [←Array.toArray_toList (xs:=c.argTypes),hts]
  have eargs:c.args = #[s,x]:=by rw [←Array.toArray_toList (xs:=c.args),hargs]
  have e2:c.args.map a.eval = #[a.eval s,a.eval x]:=by rw [eargs];simp
  have hexec:(execOp a.eval { dst,op := .call c,type,pos,after,guard }).run P w=(builtin .append #[t,t'] type (c.args.map fun | .const _=>true | _=>false) #[a.eval s,a.eval x]).run P w:=by
   simp only [execOp,resolve,hcal,Sem.run_bind,Sem.run_pure,Result.andThen_ok,invoke,ets];rw [e2];rfl
  rw [hexec]
  have hxs:=hx s (by simp [Op.operands,Call.operands,eargs])
  have hxx:=hx x (by simp [Op.operands,Call.operands,eargs])
  cases htt:beq t t' with
  | false=>rw [htt] at h;cases h
  | true=>
   rw [htt] at h
   have htt:=Nat.eq_of_beq_eq_true htt
   subst htt;simp only [cond_true] at h;split at h
   ·rename_i ss sx ti hss hsx hti
    have hu:=(hC.tt t ti hti).und
    split at h
    ·rename_i e hd;rw [hd] at hu;split at h
     ·rename_i ei src hei hsrc;split at h
      ·rename_i d hdst
       cases hc:(Nat.blt 0 ei.size&&ble ei.bytes 1000&&beq src.ss.length ei.size&&(match d.ss with | some l=>shL l src.ss | none=>true)&&(match src.frz,d.drop with | some a,some b => !beq a b | _,_=>true)&&(match src.frz with | some a=>ble lo a | none=>true)) with
       | false=>rw [hc] at h;cases h
       | true=>
        rw [hc] at h;cases h;simp only [Bool.and_eq_true] at hc;obtain ⟨⟨⟨⟨⟨c1,c2⟩,c3⟩,c4⟩,c5⟩,c6⟩:=hc
        have c1:=Nat.le_of_ble_eq_true c1
        have c2:=Nat.le_of_ble_eq_true c2
        have c3:=Nat.eq_of_beq_eq_true c3
        simp only [Bool.and_eq_true] at hck;obtain ⟨k1,k2,k3⟩:=hck
        have k3:=Nat.le_of_ble_eq_true k3
        obtain ⟨i,z,i1,i2,i3,i4,i5,i6,_⟩:=(hC.tt e ei hei).inf
        have c4' : ∀ l,d.ss=some l->l=src.ss:=fun l hl=>by rw [hl] at c4;exact J9 _ _ c4
        obtain ⟨E2,av,cp,s1,s2,s2',s3,s4,s5,s6,s7⟩:=XV hH hei hsrc (hxx _ hsx) k2 c3 (fun b hb=>by rw [hb] at c6;exact Nat.le_of_ble_eq_true c6)
        obtain ⟨xs,d1,d2,⟨da,dc,d3,d3'⟩,d4,d5⟩:=XW hH c1 hdst (hxs _ hss) k1 (fun l hl=>by rw [c4' l hl,c3])
        refine ⟨fun hm => ?_,fun hm => ?_⟩
        ·have hm0:=s5 _ hm
         have hm0:src.m=0:=Nat.eq_of_beq_eq_true hm0.symm
         refine ⟨a.eval s,?_,(H7 hH (hxs _ hss)).2,(H7 hH (hxs _ hss)).1⟩;rw [d3,s4,hm0];simp [builtin,A5 hu i1 da av d.n dc cp d3']
        ·have hmp:0<src.m:=by
          cases hm0:src.m0 with
          | none=>exact s6 hm0
          | some b=>
           have e:=s5 b hm0
           cases b with
           | true=>exact absurd hm0 hm
           | false=>
            have:=Nat.ne_of_beq_eq_false e.symm
            omega
         obtain ⟨A,nv,rfl,n1,n2,n3⟩:=s7 hmp
         have hfd : ∀ b K blk B,d.drop=some b->E b=some (B,K)->hp.get b=some blk->(nM hp src.frz).get b=some blk:=by
          intro b K blk B hdb hEb hb;rw [NZ (fun e => ?_)]
          ·exact hb
          ·rw [e,hdb] at c5;simp at c5
         have hsub : ∀ i b,(nM (nM hp src.frz) d.drop).get i=some b->(nM hp src.frz).get i=some b/\d.drop≠some i:=by
          intro i b hi
          by_cases hlt:i<65535
          ·exact VH hlt hi
          ·by_cases hdi:d.drop=some i
           ·exfalso;rw [hdi] at hi;simp only [nM] at hi;obtain ⟨B,hB⟩ : ∃ B,(a.eval s).ownBlock=some B∨True:=⟨0,.inr trivial⟩
            have:i<65535:=by
             unfold aaO at hdst;split at hdst
             ·cases hdst;cases hdi
             ·split at hdst
              ·rename_i e' sz' hb
               cases hcc:(ble lo _&&(beq e e'&&beq ei.size sz')) with
               | false=>rw [hcc] at hdst;cases hdst
               | true=>rw [hcc] at hdst;cases hdst;cases hdi;have:=hH.dom _ _ hb;have:=hH.lim;omega
              ·cases hdst
             ·split at hdst
              ·rename_i e' cs n' f hb
               cases hcc:(ble lo _&&beq e e') with
               | false=>rw [hcc] at hdst;cases hdst
               | true=>rw [hcc] at hdst;cases hdst;cases hdi;have:=hH.dom _ _ hb;have:=hH.lim;omega
              ·cases hdst
             ·cases hdst
            omega
           ·rw [NZ hdi] at hi;exact ⟨hi,hdi⟩
         have hH2:aF η E2 (nM (nM hp src.frz) d.drop) nx lo base w:=s3.sub fun i b hi=>(hsub i b hi).1
         have hown:=d1
         obtain ⟨w',v',E',g,cap,r1,r2,r3,r4,r5,r6,r7⟩:=NX (C:=C) (P:=P) hC hH2 hB hti hd hei c1 c2 hnx (cp:=cp) hown hmp k3 (by rw [n1,c3]) n2 (n3.one n1)
          (fun B hB' i b C' K' hi hEi=>by
           obtain ⟨b',K,blk,q1,q2,q3,q4⟩:=d5 B hB';obtain ⟨hi',hne⟩:=hsub i b hi
           have hE2:E2 b'=some (B,K):=by rw [s2];exact q2
           exact s3.inj i b' b blk C' B K' K (fun e=>hne (by rw [e];exact q1)) hi' (hfd b' K blk B q1 q2 q3) hEi hE2)
          (fun B hB' o=>by
           obtain ⟨b',K,blk,q1,q2,q3,q4⟩:=d5 B hB';exact s3.zd b' blk B K (hfd b' K blk B q1 q2 q3) q4 (by rw [s2];exact q2) o)
          (fun B hB' hM=>by
           obtain ⟨b',K,blk,q1,q2,q3,q4⟩:=d5 B hB';obtain ⟨mb,mq,me,ms,mn,mx,mm,mf,mi,mL,t1,t2,t3⟩:=hM;exact s3.mt.own B ⟨mb,mq,me,ms,mn,mx,mm,mf,mi,mL,(hsub _ _ t1).1,t2,t3⟩ b' blk K (hfd b' K blk B q1 q2 q3) (by rw [s2];exact q2))
          (fun B hB'=>by
           obtain ⟨b',K,blk,q1,q2,q3,q4⟩:=d5 B hB';exact ⟨b',K,by rw [s2];exact q2⟩)
          (blk := .row e src.ss (d.n+src.m) (match d.f with | some f=>VG f d.n src.g | none=>src.g))
          (fun g cap cur h1 h2 h3 h4=>by
           have hxl:xs.length=d.n*src.ss.length:=by rw [hown.1,c3]
           refine ⟨cur,rfl,by rw [h1,c3],h2,h3,by rw [c3];exact c1,fun i hi j hj => ?_⟩
           have hlt:i*src.ss.length+j<(d.n+src.m)*ei.size:=by
            have:(i+1)*src.ss.length<=(d.n+src.m)*src.ss.length:=Nat.mul_le_mul_right _ hi
            rw [Nat.add_mul] at this;rw [←c3];omega
           have hcur:cur[i*src.ss.length+j]? = (xs++nv)[i*src.ss.length+j]? := by
            rw [←h4,List.getElem?_take,if_pos hlt,Array.getElem?_toList]
           rw [hcur]
           by_cases hin:i<d.n
           ·have hcat:(match d.f with | some f=>VG f d.n src.g | none=>src.g) i j=(match d.f with | some f=>f i j | none=>src.g i j):=by
             cases hdf:d.f with
             | none=>rfl
             | some f=>simp only [VG,QI,hin,decide_true,cond_true]
            rw [hcat]
            cases hdf:d.f with
            | none=>have:=d2 hdf;omega
            | some f=>
             obtain ⟨l,hl,hrow⟩:=d4 f hdf
             have hl':=c4' l hl
             subst hl';obtain ⟨e1,u,e2,e3⟩:=hrow i hin j hj;exact ⟨e1,u,by rw [List.getElem?_append_left (List.getElem?_eq_some_iff.1 e2).1];exact e2,(e3.mono s1.z)⟩
           ·have hcat:(match d.f with | some f=>VG f d.n src.g | none=>src.g) i j=src.g (i-d.n) j:=by
             cases hdf:d.f with
             | none=>simp only [d2 hdf,Nat.sub_zero]
             | some f=>simp only [VG,QI,hin,decide_false,cond_false]
            rw [hcat];obtain ⟨e1,u,e2,e3⟩:=n3 (i-d.n) (by omega) j hj
            refine ⟨e1,u,?_,e3⟩
            have hge:xs.length<=i*src.ss.length+j:=by
             rw [hxl]
             have:=Nat.mul_le_mul_right src.ss.length (Nat.le_of_not_lt hin)
             omega
            rw [List.getElem?_append_right hge,hxl,←e2]
            congr 1
            rw [Nat.sub_mul]
            have:=Nat.mul_le_mul_right src.ss.length (Nat.le_of_not_lt hin)
            omega) trivial type
         refine ⟨w',v',E',?_,?_,s1.trans r5,r6,?_,r7⟩
         ·rw [s4];simp [builtin,r1]
         ·rw [r4];exact (s2' nx).trans (aJ.set E2 nx (g,cap)) (Nat.le_refl _)
         ·rw [r2,r4];exact JZ (Emb.set_same ..) r3
      ·cases h
     ·cases h
    ·cases h
   ·cases h
 ·cases h
def lP (f:Nat->Nat->FD)(i j:Nat)(d:FD):Nat->Nat->FD:=fun i' j'=>bif beq i' i&&beq j' j then d else f i' j'
def gK (C:Cx)(tm:T Sv)(hp:T Blk)(lo:Nat)(t:TypeId)(x v:Operand):Option (Bool × Nat × Blk):=
 match evX tm x,evX tm v,C.tt.get t with
 | some (.one (.rptr b sz i j)),some (.one c),some ti=>match Q1 c,hp.get b with
  | some (s,d),some (.row e cs n f)=>bif ble lo b&&(beq ti.size 1&&(beq sz cs.length&&(Nat.blt j cs.length&&shB (jW cs j) s))) then
    some (Nat.blt i n,b,.row e cs n (lP f i j d)) else none
  | _,_=>none
 | _,_,_=>none
theorem s8 {C:Cx} {P:Program} {η:Env} {E:Emb} (hC:C.Ok P η) {hp:T Blk} {nx lo base:Nat} {w w0:World} (hH:aF η E hp nx lo base w) (hB:Below base w0 w) {tm:T Sv} {a:Act} {o:Oper} {t:TypeId} {x v:Operand} (ho:o.op = .store t x v)
  (hx : ∀ x∈o.op.operands,nI η E tm a x) {r:Bool × Nat × Blk} (h:gK C tm hp lo t x v=some r) (hck:r.1=true):
  ∃ w',(execOp a.eval o).run P w = .ok .skip w'/\aF η E (hp.set r.2.1 (some r.2.2)) nx lo base w'/\Below base w0 w':=by
 obtain ⟨dst,op,type,pos,after,guard⟩:=o;simp only at ho hx;subst ho;unfold gK at h;split at h
 ·rename_i b sz i j c ti hsx hsv hti;split at h
  ·rename_i s d e cs n f hfd hb
   cases hc:(ble lo b&&(beq ti.size 1&&(beq sz cs.length&&(Nat.blt j cs.length&&shB (jW cs j) s)))) with
   | false=>rw [hc] at h;cases h
   | true=>
    rw [hc] at h;cases h;simp only [Bool.and_eq_true] at hc;obtain ⟨c1,c2,c3,c4,c5⟩:=hc
    have c1:=Nat.le_of_ble_eq_true c1
    have c2:=Nat.eq_of_beq_eq_true c2
    have c3:=Nat.eq_of_beq_eq_true c3
    have c4:=Nat.le_of_ble_eq_true c4
    have c5:=J8 _ _ c5
    have hin:i<n:=Nat.le_of_ble_eq_true hck
    subst c3
    have ex:=hx x (by simp [Op.operands]) _ hsx
    have ev:=hx v (by simp [Op.operands]) _ hsv
    obtain ⟨B,K,hE,ep⟩:=vP ex
    have ev:c.den η E=some (a.eval v):=ev
    obtain ⟨q1,q2⟩:=vU hfd ev;obtain ⟨B',K',hE',cc,h1,h2,h3,h4,h5,h6⟩:=hH.cell b _ hb;rw [hE] at hE';cases hE'
    have hone:=Sc.den_cells ev
    have hlt:i*cs.length+j<cc.size:=by
     rw [h2]
     have:(i+1)*cs.length<=K*cs.length:=Nat.mul_le_mul_right _ (by omega)
     rw [Nat.add_mul] at this;omega
    have hcell:w.cell? ⟨B,i*cs.length+j,none⟩=some (cc[i*cs.length+j]'hlt):=by
     rw [cell_of_row w B _ cc e (0,0) h1];simp [hlt]
    have hf:w.frozen? ⟨B,i*cs.length+j,none⟩=false:=frozen_of_row w B _ cc e h1
    have hh:=heap_setCell_same w B (i*cs.length+j) cc e (a.eval v) h1
    refine ⟨w.setCell ⟨B,i*cs.length+j,none⟩ (a.eval v),?_,?_,(kH.setCell w ⟨B,i*cs.length+j,none⟩ (a.eval v)).below hB (hH.hi b B K c1 hE)⟩
    ·have hns : ¬ (a.eval v).cells.size≠ti.size:=by rw [hone.1,c2];simp
     have hst:(store ⟨B,i*cs.length+j,none⟩ (a.eval v)).run P w = .ok () (w.setCell ⟨B,i*cs.length+j,none⟩ (a.eval v)):=by
      rw [run_store P w _ _ _ hone.2];simp [hcell,hf]
     have hadd:(⟨B,i*cs.length+j,none⟩:Addr).add 0=⟨B,i*cs.length+j,none⟩:=by rw [bM,Nat.add_zero]
     simp only [execOp,Instr.storeAt,ep,Instr.sureAddr,storeVar,Sem.run_bind,Sem.run_pure,Result.andThen_ok,(hC.tt t ti hti).run_size,if_neg hns];simp [hone.1,storeCells,hadd,hst]
    ·refine hH.write hb hE (kH.setCell w ⟨B,i*cs.length+j,none⟩ (a.eval v)).size (kH.setCell w ⟨B,i*cs.length+j,none⟩ (a.eval v)).oth ?_;refine ⟨_,hh,by simpa using h2,h3,h4,h5,fun i' hi' j' hj' => ?_⟩
     obtain ⟨k1,u,k2,k3⟩:=h6 i' hi' j' hj'
     have hs:0<cs.length:=h5
     simp only [lP,fL]
     by_cases hii:i'=i
     ·by_cases hjj:j'=j
      ·subst hii;subst hjj;simp only [decide_true,Bool.and_self,cond_true];refine ⟨by rw [c5];exact q1,a.eval v,?_,q2⟩
       simp [hlt]
      ·subst hii;simp only [hjj,decide_false,Bool.and_false,cond_false];refine ⟨k1,u,?_,k3⟩;rw [Array.getElem?_setIfInBounds_ne (by omega)];exact k2
     ·simp only [hii,decide_false,Bool.false_and,cond_false];refine ⟨k1,u,?_,k3⟩;rw [Array.getElem?_setIfInBounds_ne ?_]
      ·exact k2
      ·intro e;apply hii
       have e1:(i*cs.length+j) / cs.length=i:=by rw [Nat.mul_comm,Nat.mul_add_div hs,Nat.div_eq_of_lt c4,Nat.add_zero]
       have e2:(i'*cs.length+j') / cs.length=i':=by rw [Nat.mul_comm,Nat.mul_add_div hs,Nat.div_eq_of_lt hj',Nat.add_zero]
       rw [←e1,←e2,e]
  ·cases h
 ·cases h
end
end Go.Ex
