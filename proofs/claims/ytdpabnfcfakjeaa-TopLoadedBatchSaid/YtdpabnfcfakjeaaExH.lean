/-
 Contracts of functions whose last argument is a closure: what it has captured lies in the caller's blocks.
-/
import Derived.Test.YtdpabnfcfakjeaaExSb
namespace Go.Ex
open Go Go.RowKit
noncomputable section
abbrev Clo:=FuncId × List (TypeId × List Sh)
def jZ (hp:T Blk):List (Nat × Nat)->List (TypeId × List Sh)->Option (List FD)
 | [],[]=>some []
 | a::cs,b::bs=>match a.2,hp.get a.1 with
  | 0,some (.cells e sz l)=>bif Nat.beq b.1 e&&Nat.beq sz l.length then (match KD b.2 l,jZ hp cs bs with
   | some d,some ds=>some (d++ds)
   | _,_=>none) else none
  | _,_=>none
 | _,_=>none
def J3 (r:Nat):Nat->List Sh->List FD->List Sc
 | k,s::l,d::ds=>dD (.root r k) s d::J3 r (k+1) l ds
 | _,_,_=>[]
theorem HZ {η:Env} {E E0:Emb} {r:Nat} (hz:E0.z=E.z) : ∀ {l:List Sh} {m:List Sc} {ds ds':List FD} {vs:List Value} {k:Nat},KD l m=some ds->aQ η E m=some vs->(∀ i v,vs[i]? = some v->E0.r r (k+i)=some v)->
  aQ η E0 (J3 r k l (ds++ds'))=some vs/\FitL l ds/\ds.length=l.length/\vs.length=l.length
 | [],[],ds,ds',vs,k,h,hv,_=>by cases h;cases hv;exact ⟨rfl,trivial,rfl,rfl⟩
 | s::l,c::m,ds,ds',vs,k,h,hv,hr=>by
  simp only [KD] at h;split at h
  ·rename_i d ds1 h1 h2
   cases h
   obtain ⟨v,us,e1,e2,rfl⟩:=aR hv;obtain ⟨g1,g2⟩:=yH h1 e1;obtain ⟨q1,q2,q3,q4⟩:=HZ hz (ds':=ds') (k:=k+1) h2 e2 (fun i u hi=>by have:=hr (i+1) u (by simpa using hi);rwa [show k+1+i=k+(i+1) by omega])
   refine ⟨?_,⟨⟨g1,_,_,g2⟩,q2⟩,by simp [q3],by simp [q4]⟩
   show aQ η E0 (dD (.root r k) s d::J3 r (k+1) l (ds1++ds'))=_
   have:=nK (η:=η) (E:=E0) (r := .root r k) g1 (by rw [hz];exact g2) (hr 0 v rfl)
   simp only [aQ,this,q1]
  ·cases h
 | [],_::_,_,_,_,_,h,_,_=>by cases h
 | _::_,[],_,_,_,_,h,_,_=>by cases h
def gW:Nat->Nat->List (TypeId × List Sh)->List FD->List (Nat × Blk)
 | _,_,[],_=>[]
 | i,k,b::bs,ds=>(i,.cells b.1 b.2.length (J3 1 k b.2 ds))::gW (i+1) (k+b.2.length) bs (ds.drop b.2.length)
def oS:Nat->List (TypeId × List Sh)->List (Nat × Nat)
 | _,[]=>[]
 | i,_::bs=>(i,0)::oS (i+1) bs
def nL:List (Nat × Nat)->Bool
 | []=>true
 | a::l=>(l.all fun b => !Nat.beq a.1 b.1)&&nL l
def XN (G:List PT)(clo:Clo)(fds A:List FD):St:=
 ⟨dF 0 (j0 0 G fds++[.one (.fn clo.1 (oS 1 clo.2))]) .nil,T.ofList (gW 1 0 clo.2 A),clo.2.length+1,clo.2.length+1,[]⟩
def NL:List Sv->Option (List Sv × Sv)
 | []=>none
 | [s]=>some ([],s)
 | s::l=>match NL l with
  | some (i,x)=>some (s::i,x)
  | none=>none
theorem NM : ∀ {l i:List Sv} {x:Sv},NL l=some (i,x)->l=i++[x]
 | [],_,_,h=>by cases h
 | [s],_,_,h=>by cases h;rfl
 | s::t::l,i,x,h=>by
  simp only [NL] at h;split at h
  ·rename_i j y hj
   cases h
   have:=NM (l:=t::l) hj
   rw [this];rfl
  ·cases h
def lK (G:List PT)(clo:Clo)(rt:RT)(ck:List FD->List FD->Bool)(F:List FD->List FD->List FD):T Blk->List Sv->PC->aB (Sv × PC):=fun hp svs pc=>
 match NL svs with
 | some (init,.one (.fn f caps))=>bif Nat.beq f clo.1&&nL caps then (match mJ G init,jZ hp caps clo.2 with
  | some fds,some A=>chk (ck fds A) (.leaf (nP rt (F fds A),pc))
  | _,_ => .fail) else .fail
 | _ => .fail
def aaz:List (TypeId × List Sh)->List Sh
 | []=>[]
 | b::bs=>b.2++aaz bs
def aeo (C:Cx)(P:Program)(η:Env)(f:FuncId)(fi:FI)(G:List PT)(clo:Clo)(rt:RT)(ck:List FD->List FD->Bool)(F:List FD->List FD->List FD):Prop:=
 FI.Ok P f fi /\ ∀ fds A,FitL (sigS G) fds->FitL (aaz clo.2) A->ck fds A=true->((Nat.ble (j0 0 G fds++[Sv.one (.fn clo.1 (oS 1 clo.2))]).length fi.ntmps&&Nat.ble fi.ntmps 60000)=true/\
  dH P η fi.ntmps 0 none (XN G clo fds A) [.code fi.body] (VJ C fi rt (F fds A)))
def kO (η:Env)(E:Emb)(hp:T Blk):List (Nat × Nat)->List Value
 | []=>[]
 | a::cs=>(match hp.get a.1 with
  | some (.cells _ _ l)=>(aQ η E l).getD []
  | _=>[])++kO η E hp cs
theorem H0 {η:Env} {E E0:Emb} (hz:E0.z=E.z) {hp:T Blk} (hcell : ∀ i b,hp.get i=some b -> ∃ B K o,E i=some (B,K)/\b.Rel η E K o) : ∀ {caps:List (Nat × Nat)} {bs:List (TypeId × List Sh)} {ds:List FD} {i k:Nat},jZ hp caps bs=some ds->
  (∀ j v,(kO η E hp caps)[j]? = some v->E0.r 1 (k+j)=some v)->
  FitL (aaz bs) ds/\caps.length=bs.length /\ ∀ n blk,(n,blk)∈gW i k bs ds -> ∃ a e sz l,i<=n/\caps[n-i]? = some a/\a.2=0/\hp.get a.1=some (.cells e sz l) /\ ∀ K o,(Blk.cells e sz l).Rel η E K o->blk.Rel η E0 K o
 | [],[],ds,i,k,h,_=>by cases h;exact ⟨trivial,rfl,fun n blk hm=>by cases hm⟩
 | a::cs,b::bs,ds,i,k,h,hr=>by
  simp only [jZ] at h;split at h
  ·rename_i e sz l ha hb
   cases hc:(Nat.beq b.1 e&&Nat.beq sz l.length) with
   | false=>rw [hc] at h;cases h
   | true=>
    rw [hc] at h;simp only [Bool.and_eq_true] at hc
    have c1:=Nat.eq_of_beq_eq_true hc.1
    have c2:=Nat.eq_of_beq_eq_true hc.2
    simp only [cond_true] at h;split at h
    ·rename_i d ds1 h1 h2
     cases h
     obtain ⟨B,K,o,hE,hrel⟩:=hcell a.1 _ hb;obtain ⟨c,vs,rest,e1,e2,e3,e4,e5⟩:=hrel
     have hbv:kO η E hp (a::cs)=vs++kO η E hp cs:=by simp only [kO,hb,e4,Option.getD_some]
     have hvl:=bC e4
     obtain ⟨q1,q2,q3,q4⟩:=HZ (r:=1) hz (ds':=ds1) (k:=k) h1 e4 (fun j v hj=>hr j v (by rw [hbv,List.getElem?_append_left (List.getElem?_eq_some_iff.1 hj).1];exact hj))
     obtain ⟨p1,p2,p3⟩:=H0 hz hcell (i:=i+1) (k:=k+b.2.length) h2 (fun j v hj=>by
      have:=hr (b.2.length+j) v (by rw [hbv,List.getElem?_append_right (by omega)];rw [q4];simpa using hj)
      rwa [show k+b.2.length+j=k+(b.2.length+j) by omega])
     refine ⟨FitL.append q2 p1,by simp [p2],fun n blk hm => ?_⟩
     have hdrop:(d++ds1).drop b.2.length=ds1:=by rw [←q3];simp
     simp only [gW,hdrop] at hm
     cases hm with
     | head=>
      refine ⟨a,e,sz,l,Nat.le_refl _,by simp,ha,hb,fun K' o' hrel' => ?_⟩
      obtain ⟨c',vs',rest',g1,g2,g3,g4,g5⟩:=hrel';rw [e4] at g4;cases g4;exact ⟨c',vs,rest',by rw [g1,c1],by rw [g2,c2,←hvl,q4],g3,q1,g5⟩
     | tail _ hm=>
      obtain ⟨a',e',sz',l',r1,r2,r3,r4,r5⟩:=p3 n blk hm;refine ⟨a',e',sz',l',by omega,?_,r3,r4,r5⟩
      rw [show n-i=(n-(i+1))+1 by omega,List.getElem?_cons_succ]
      exact r2
    ·cases h
  ·cases h
 | [],_::_,_,_,_,h,_=>by cases h
 | _::_,[],_,_,_,h,_=>by simp [jZ] at h
theorem tX {η:Env} {E':Emb} {hp:T Blk} {s:Sh} {c:Sc} {d:FD} {u:Value} (hs:s.scal=true) (h:D3 hp s c d) (hu:c.den η E'=some u) (E:Emb) (k:Nat):(dD (.root 0 k) s d).den η E=some u:=by
 unfold D3 at h;split at h<;>first | (cases h;done) | skip
 ·cases hu;simp only [dD,Sc.den,d7,h];rfl
 ·cases hu;simp only [dD,Sc.den,d7,h];simp [Bx.den,fK.den]
 ·cases hu;simp only [dD,Sc.den,d7,h];simp [Bx.den,fK.den]
 ·cases hu;obtain ⟨rfl,h⟩:=h;simp [dD,Sc.den,Ix.den,h]
 ·cases hu;obtain ⟨rfl,h⟩:=h;simp [dD,Sc.den,Ix.den,h]
 ·cases hu;simp [dD,Sc.den,h]
 ·cases hu;simp [dD,Sc.den,h]
 all_goals cases hs
theorem yD {η:Env} {E':Emb} {hp:T Blk} {fds:List FD} (E:Emb) : ∀ {l:List Sh} {m:List Sc} {vs:List Value} {k:Nat},l.all Sh.scal=true->XX hp fds k l m->aQ η E' m=some vs->aQ η E (qF fds k l)=some vs
 | [],[],vs,k,_,_,hv=>by cases hv;rfl
 | s::l,c::m,vs,k,hs,h,hv=>by
  simp only [List.all_cons,Bool.and_eq_true] at hs;obtain ⟨v,us,e1,e2,rfl⟩:=aR hv;simp only [qF,aQ,tX hs.1 h.1 e1 E k,yD E hs.2 h.2 e2]
 | [],_::_,_,_,_,h,_=>h.elim
 | _::_,[],_,_,_,h,_=>h.elim
theorem tY {η:Env} {E':Emb} {hp:T Blk} {fds:List FD} (E:Emb) : ∀ {l:List PT} {m:List (Bool × List Sc)} {vs:List Value} {k:Nat},l.all PT.scal=true->N4 hp fds k l m->aN η E' m=some vs->aN η E (mK fds k l)=some vs
 | [],[],vs,k,_,_,hv=>by cases hv;rfl
 | .one s::l,(false,[c])::m,vs,k,hs,h,hv=>by
  simp only [List.all_cons,Bool.and_eq_true] at hs;obtain ⟨v,us,e1,e2,rfl⟩:=jP hv;simp only [mK,aN,bL,tX (s:=s) hs.1 h.1 e1 E k,tY E hs.2 h.2 e2]
 | .agg cs::l,(true,c)::m,vs,k,hs,h,hv=>by
  simp only [List.all_cons,Bool.and_eq_true] at hs;obtain ⟨v,us,e1,e2,rfl⟩:=jP hv
  have e1':(Sv.agg c).den η E'=some v:=e1
  obtain ⟨ws,g1,rfl⟩:=gV e1';simp only [mK,aN,bL,yD E (l:=cs) hs.1 h.1 g1,tY E hs.2 h.2 e2,Option.map_some]
 | [],_::_,_,_,_,h,_=>h.elim
 | .one _::_,[],_,_,_,h,_=>h.elim
 | .agg _::_,[],_,_,_,h,_=>h.elim
 | .one _::_,(true,_)::_,_,_,_,h,_=>h.elim
 | .one _::_,(false,[])::_,_,_,_,h,_=>h.elim
 | .one _::_,(false,_::_::_)::_,_,_,_,h,_=>h.elim
 | .agg _::_,(false,[])::_,_,_,_,h,_=>h.elim
 | .agg _::_,(false,_::_)::_,_,_,_,h,_=>h.elim
theorem VC {η:Env} {E':Emb} {hp:T Blk} {fds:List FD} {rt:RT} {s:Sv} {v:Value} (hs:rt.scal=true) (h:KE hp rt fds s) (hv:s.den η E'=some v) (E:Emb):(nP rt fds).den η E=some v:=by
 cases rt with
 | one sh=>
  cases s with
  | one c=>exact tX hs h hv E 0
  | _=>exact h.elim
 | agg l=>
  cases s with
  | agg m=>
   obtain ⟨ws,g1,rfl⟩:=gV hv;simp only [nP,Sv.den,yD E (l:=l) hs h g1,Option.map_some]
  | _=>exact h.elim
 | tup l=>
  cases s with
  | tup m=>
   simp only [Sv.den,Option.map_eq_some_iff] at hv;obtain ⟨ws,g1,rfl⟩:=hv;simp only [nP,Sv.den,tY E (l:=l) hs h g1,Option.map_some]
  | _=>exact h.elim
theorem vT : ∀ {l:List (Nat × Nat)},nL l=true -> ∀ (i j:Nat) (a b:Nat × Nat),i≠j->l[i]? = some a->l[j]? = some b->a.1≠b.1
 | [],_,i,j,a,b,_,h,_=>by simp at h
 | x::l,h,i,j,a,b,hij,ha,hb=>by
  simp only [nL,Bool.and_eq_true] at h
  have key : ∀ (k:Nat) (c:Nat × Nat),l[k]? = some c->x.1≠c.1:=fun k c hk e=>by
   have:=List.all_eq_true.1 h.1 c (List.mem_of_getElem? hk)
   rw [e] at this;simp at this
  cases i with
  | zero=>
   cases j with
   | zero=>exact absurd rfl hij
   | succ j=>
    simp only [List.getElem?_cons_zero,Option.some.injEq] at ha;subst ha;exact key j b (by simpa using hb)
  | succ i=>
   cases j with
   | zero=>
    simp only [List.getElem?_cons_zero,Option.some.injEq] at hb;subst hb;exact fun e=>key i a (by simpa using ha) e.symm
   | succ j=>exact vT h.2 i j a b (by omega) (by simpa using ha) (by simpa using hb)
theorem AJ {n:Nat} {blk:Blk} : ∀ {bs:List (TypeId × List Sh)} {i k:Nat} {ds:List FD},(n,blk)∈gW i k bs ds->blk.noM
 | [],_,_,_,h=>by simp only [gW] at h;cases h
 | b::bs,i,k,ds,h=>by
  simp only [gW] at h
  rcases List.mem_cons.1 h with h | h
  ·cases h;trivial
  ·exact AJ h
def oT (E:Emb) (caps:List (Nat × Nat)) (vs bvs:List Value):Emb:=
 ⟨fun i=>match i with
  | 0=>none
  | i+1=>match caps[i]? with
   | some a=>E.b a.1
   | none=>none,fun k j=>if k=0 then vs[j]? else if k=1/\0<caps.length then bvs[j]? else none,E.z,fun _=>none,⟨[],E.z⟩,fun _ _=>none⟩
theorem QY (E:Emb) (caps:List (Nat × Nat)) (vs bvs:List Value) (j:Nat):(oT E caps vs bvs).r 0 j=vs[j]? := by simp [oT]
theorem QZ (E:Emb) {caps:List (Nat × Nat)} (vs bvs:List Value) (j:Nat) (h:0<caps.length):(oT E caps vs bvs).r 1 j=bvs[j]? := by simp [oT,h]
theorem DP (E:Emb) (caps:List (Nat × Nat)) (vs bvs:List Value) (k j:Nat) (h0:k≠0) (h:k=1 -> ¬ 0<caps.length):(oT E caps vs bvs).r k j=none:=by
 simp only [oT];rw [if_neg h0,if_neg (fun hh=>h hh.1 hh.2)]
theorem AL {E E0:Emb} {caps0:List (Nat × Nat)} : ∀ {caps:List (Nat × Nat)} {bs:List (TypeId × List Sh)} {ptrs:List Value} {i:Nat},caps.length=bs.length->(∀ a∈caps,a.2=0)->(∀ j a,caps[j]? = some a->E0 (i+j)=E a.1)->b7 E caps=some ptrs->b7 E0 (oS i bs)=some ptrs
 | [],[],ptrs,i,_,_,_,h=>h
 | a::cs,b::bs,ptrs,i,hl,h0,he,h=>by
  simp only [b7] at h;split at h
  ·rename_i x r hx hr
   cases h
   have e0:=h0 a (List.mem_cons_self ..)
   have hx':bV E0 (i,0)=some x:=by
    unfold bV at hx ⊢
    have:=he 0 a rfl
    rw [Nat.add_zero] at this;rw [this,←e0];exact hx
   have ih:=AL (E:=E) (E0:=E0) (caps0:=caps0) (caps:=cs) (bs:=bs) (i:=i+1) (by simpa using hl) (fun c hc=>h0 c (List.mem_cons_of_mem _ hc)) (fun j c hj=>by have:=he (j+1) c (by simpa using hj);rwa [show i+1+j=i+(j+1) by omega]) hr
   simp only [oS,b7,hx',ih]
  ·cases h
 | [],_::_,_,_,hl,_,_,_=>by simp at hl
 | _::_,[],_,_,hl,_,_,_=>by simp at hl
theorem aaA {C:Cx} {P:Program} {η:Env} (hC:C.Ok P η) {f:FuncId} {fi:FI} {G:List PT} {clo:Clo} {rt:RT} {ck:List FD->List FD->Bool} {F:List FD->List FD->List FD} (h:aeo C P η f fi G clo rt ck F) (hrt:rt.scal=true) (hcl:Nat.ble clo.2.length 100=true):
  ∀ hp svs pc r pc',(lK G clo rt ck F hp svs pc).at_ η=some (r,pc')->pc.holds η->pc'.holds η /\ ∀ E args nx lo base w,aF η E hp nx lo base w->aD η E svs=some args -> ∃ v,r.den η E=some v/\AG P f args.toArray w v:=by
 intro hp svs pc r pc' hg hpc
 have hcl:=Nat.le_of_ble_eq_true hcl
 unfold lK at hg;split at hg
 ·rename_i init g caps hlast
  cases hb:(Nat.beq g clo.1&&nL caps) with
  | false=>rw [hb] at hg;cases hg
  | true=>
   rw [hb] at hg;simp only [Bool.and_eq_true] at hb
   have hgf:=Nat.eq_of_beq_eq_true hb.1
   subst hgf;simp only [cond_true] at hg;split at hg
   ·rename_i fds A hfds hbds;obtain ⟨hck,hg⟩:=eZ hg
    cases hg
    have hsv:=NM hlast
    subst hsv;refine ⟨hpc,fun E args nx lo base w hH hv => ?_⟩
    obtain ⟨vs1,cv,hv1,hcv,rfl⟩ : ∃ vs1 cv,aD η E init=some vs1/\(Sv.one (.fn clo.1 caps)).den η E=some cv/\args=vs1++[cv]:=by
     have : ∀ {l:List Sv} {s:Sv} {vs:List Value},aD η E (l++[s])=some vs -> ∃ us v,aD η E l=some us/\s.den η E=some v/\vs=us++[v]:=by
      intro l
      induction l with
      | nil=>
       intro s vs hh;obtain ⟨v,us,e1,e2,rfl⟩:=aI hh
       cases e2
       exact ⟨[],v,rfl,e1,rfl⟩
      | cons t l ih=>
       intro s vs hh;obtain ⟨v,us,e1,e2,rfl⟩:=aI hh;obtain ⟨us',v',g1,g2,rfl⟩:=ih e2;exact ⟨v::us',v',by simp only [aD,e1,g1],g2,rfl⟩
     exact this hv
    simp only [Sv.den,Sc.den,Option.map_eq_some_iff] at hcv;obtain ⟨ptrs,hptrs,rfl⟩:=hcv
    let E0:=oT E caps (cellsOf G vs1) (kO η E hp caps)
    obtain ⟨q1,q2⟩:=iG (η:=η) (E:=E) (E0:=E0) rfl (k:=0) hfds hv1 (fun i v hi=>by rw [Nat.zero_add];exact (QY _ _ _ _ _).trans hi)
    have hcell : ∀ i b,hp.get i=some b -> ∃ B K o,E i=some (B,K)/\b.Rel η E K o:=fun i b hi=>by
     obtain ⟨B,K,e1,e2⟩:=hH.cell i b hi;exact ⟨B,K,_,e1,e2⟩
    have hroot : ∀ j v,(kO η E hp caps)[j]? = some v->E0.r 1 (0+j)=some v:=fun j v hj=>by
     have hc0:0<caps.length:=by
      cases caps with
      | nil=>simp [kO] at hj
      | cons a l=>simp
     rw [Nat.zero_add];exact (QZ _ _ _ _ hc0).trans hj
    obtain ⟨p1,p2,p3⟩:=H0 (E:=E) (E0:=E0) rfl hcell (i:=1) (k:=0) hbds hroot;obtain ⟨k1,k2⟩:=h.2 fds A q2 p1 hck
    have hlt : ∀ p∈gW 1 0 clo.2 A,p.1<65535:=by
     have : ∀ (bs:List (TypeId × List Sh)) (i k:Nat) (ds:List FD),∀ p∈gW i k bs ds,p.1<i+bs.length:=by
      intro bs
      induction bs with
      | nil=>intro i k ds p hp;cases hp
      | cons b bs ih=>
       intro i k ds p hp;simp only [gW] at hp
       cases hp with
       | head=>simp
       | tail _ hp=>have:=ih _ _ _ p hp;simp only [List.length_cons];omega
     intro p hp'
     have:=this _ _ _ _ p hp'
     omega
    have hget : ∀ n blk,(T.ofList (gW 1 0 clo.2 A)).get n=some blk -> ∃ a e sz l,1<=n/\caps[n-1]? = some a/\a.2=0/\hp.get a.1=some (.cells e sz l) /\ ∀ K o,(Blk.cells e sz l).Rel η E K o->blk.Rel η E0 K o:=fun n blk hn=>p3 n blk (T.get_ofList hlt hn)
    have hE0 : ∀ n a,1<=n->caps[n-1]? = some a->E0 n=E a.1:=fun n a h1 ha=>by
     obtain ⟨m,rfl⟩ : ∃ m,n=m+1:=⟨n-1,by omega⟩
     rw [Nat.add_sub_cancel] at ha
     show (match caps[m]? with | some a=>E.b a.1 | none=>none)=E.b a.1
     rw [ha]
    have hE0' : ∀ n X,E0 n=some X -> ∃ a,1<=n/\caps[n-1]? = some a/\E a.1=some X:=fun n X hX=>by
     cases n with
     | zero=>cases hX
     | succ m=>
      have hX:(match caps[m]? with | some a=>E.b a.1 | none=>none)=some X:=hX
      split at hX
      ·rename_i a ha;exact ⟨a,by omega,by rw [Nat.add_sub_cancel];exact ha,hX⟩
      ·cases hX
    have hlow : ∀ n a,caps[n-1]? = some a->1<=n->n<clo.2.length+1:=fun n a ha h1=>by
     have:=(List.getElem?_eq_some_iff.1 ha).1
     omega
    have hH0:aF η E0 (T.ofList (gW 1 0 clo.2 A)) (clo.2.length+1) (clo.2.length+1) w.heap.size w:=by
     refine ⟨fun n blk hn => ?_,fun n blk hn => ?_,fun i j b c B B' K L hij hi hj hE hE' => ?_,fun n B K hl hE => ?_,fun n B K hE => ?_,Nat.le_refl _,fun n hn => ?_,by omega,hH.zw,fun n blk B K hn _ hE o => ?_,fun k hk j => ?_,(fun D o hD=>by cases hD),⟨fun k j v hk hv => ?_,fun _ _ _ _ hh=>hh⟩,xZ.empty (fun _ _=>rfl) (fun b q e s n x m f hb=>by
      exact AJ (T.get_ofList hlt hb))⟩
     ·obtain ⟨a,_,_,_,g1,g2,_⟩:=hget n blk hn;exact hlow n a g2 g1
     ·obtain ⟨a,e,sz,l,g1,g2,g3,g4,g5⟩:=hget n blk hn;obtain ⟨B,K,e1,e2⟩:=hH.cell _ _ g4;exact ⟨B,K,by rw [hE0 n a g1 g2];exact e1,g5 K _ e2⟩
     ·obtain ⟨a,e,sz,l,g1,g2,g3,g4,g5⟩:=hget i b hi;obtain ⟨a',e',sz',l',g1',g2',g3',g4',g5'⟩:=hget j c hj;rw [hE0 i a g1 g2] at hE;rw [hE0 j a' g1' g2'] at hE';exact hH.inj a.1 a'.1 _ _ B B' K L (vT hb.2 (i-1) (j-1) a a' (by omega) g2 g2') g4 g4' hE hE'
     ·obtain ⟨a,g1,g2,_⟩:=hE0' n _ hE
      have:=hlow n a g2 g1
      omega
     ·obtain ⟨a,g1,g2,g3⟩:=hE0' n _ hE;exact hH.top a.1 B K g3
     ·cases hE:E0 n with
      | none=>rfl
      | some X=>
       obtain ⟨a,g1,g2,_⟩:=hE0' n _ hE
       have:=hlow n a g2 g1
       omega
     ·obtain ⟨a,e,sz,l,g1,g2,g3,g4,g5⟩:=hget n blk hn;rw [hE0 n a g1 g2] at hE;exact hH.zd a.1 _ B K g4 trivial hE o
     ·exact DP _ _ _ _ _ _ (by omega) (fun e=>by omega)
     ·have:=DP E caps (cellsOf G vs1) (kO η E hp caps) k j (by omega) (fun e=>by omega)
      rw [show E0.r k j=none from this] at hv
      cases hv
    have hcaps0 : ∀ a∈caps,a.2=0:=by
     have : ∀ {cs:List (Nat × Nat)} {bs:List (TypeId × List Sh)} {ds:List FD},jZ hp cs bs=some ds -> ∀ a∈cs,a.2=0:=by
      intro cs
      induction cs with
      | nil=>intro bs ds _ a ha;cases ha
      | cons c cs ih=>
       intro bs ds hh a ha
       cases bs with
       | nil=>simp [jZ] at hh
       | cons b bs=>
        simp only [jZ] at hh;split at hh
        ·rename_i hc0 _
         cases hcc:(Nat.beq b.1 _&&_) with
         | false=>rw [hcc] at hh;cases hh
         | true=>
          rw [hcc] at hh;simp only [cond_true] at hh;split at hh
          ·rename_i h2
           cases ha with
           | head=>exact hc0
           | tail _ ha=>exact ih h2 a ha
          ·cases hh
        ·cases hh
     exact this hbds
    have hargs0:aD η E0 (j0 0 G fds++[.one (.fn clo.1 (oS 1 clo.2))])=some (vs1++[.func (.func clo.1) #[] ptrs.toArray]):=by
     refine eP q1 ?_
     have:=AL (E:=E) (E0:=E0) (caps0:=caps) (i:=1) p2 hcaps0 (fun j a hj=>hE0 (1+j) a (by omega) (by rw [Nat.add_sub_cancel_left];exact hj)) hptrs
     simp only [aD,Sv.den,Sc.den,this,Option.map_some]
    have key:=KC hC h.1 (n0:=0) (Nat.zero_le _) (Nat.le_refl _) k2 k1 hH0 (Below.refl _ _) hargs0 rfl (Ψ:=fun st' s=>KE st'.hp rt (F fds A) s) (R:=fun e w' => ∃ v,e = .returned v/\Below w.heap.size w w'/\(nP rt (F fds A)).den η E=some v) (fun x st' hx=>hx.out) ?_
    ·obtain ⟨e,w',v,rfl,hB,hd⟩:=Calls.exists key;refine ⟨v,hd,.inr ⟨bU h.1 _ w,key.mono ?_⟩⟩;rintro e w'' ⟨v',rfl,hB',hd'⟩;rw [hd] at hd';cases hd';exact ⟨rfl,hB'⟩
    ·intro st' s v E' w' he hd hH' hB hz0;exact ⟨v,rfl,hB,VC hrt he hd E⟩
   ·cases hg
 ·cases hg
end
end Go.Ex
