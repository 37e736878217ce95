/-
 From a run of a function's body to its contract: summaries of typed data.
-/
import Derived.Test.YtdpabnfcfakjeaaExSa
import Derived.RangeFuncNested
import Derived.Test.YtdpabnfcfakjeaaEx17a
namespace Go.Ex
open Go Go.RowKit
noncomputable section
def Emb.unmark (E:Emb)(D:Nat):Emb:={ E with d:=fun x=>bif Nat.beq x D then none else E.d x }
theorem Emb.le_unmark (E:Emb)(D:Nat):E.le (E.unmark D):=⟨fun _ _ h=>h,fun _ _ _ h=>h,fun _ _ _ h=>h,fun _ _ _ h=>h⟩
theorem aF.unmark {η:Env} {E:Emb} {hp:T Blk} {nx lo base:Nat} {w:World} (h:aF η E hp nx lo base w) {D:Nat} {ob:Obj} (hD:E.d D=some ob) (hnc:ob.isCells=false) (o':Obj):aF η (E.unmark D) hp nx lo base (w.putObj D o'):=by
 obtain ⟨hb,hd,_,hne⟩:=h.dk D ob hD
 have hoth : ∀ C,C≠D->(w.putObj D o').heap[C]? = w.heap[C]? := fun C hC=>World.putObj_heap_other hC
 have hsz:(w.putObj D o').heap.size=w.heap.size:=by simp [World.putObj]
 refine ⟨h.dom,fun i b hi => ?_,h.inj,h.hi,fun i B K hE=>by rw [hsz];exact h.top i B K hE,by rw [hsz];exact h.bot,h.free,h.lim,fun B o v hz => ?_,h.zd,h.rfree,fun C o hC => ?_,h.rn,h.mt.keep (fun _ _=>rfl) (Nat.le_refl _) h.mt.hi (by rw [hsz];exact Nat.le_refl _) (fun _ _ _ _ _ _ _ _ hg=>⟨hg,rfl⟩) (fun _ _ _ h=>h) (fun B ⟨b',q',e',s',n',x',m',f',K',hg,hE'⟩=>hoth B fun e=>by subst e;exact hne b' K' hE') (fun B hB=>hoth B fun e=>by
   subst e;obtain ⟨b',q',e',s',n',x',m',f',i',L,hg,hi',hE'⟩:=hB;obtain ⟨_,_,_,_,_,_,k4,_⟩:=h.mt.row _ _ _ _ _ _ _ _ hg;obtain ⟨B',L',l1,_,c',e'',l3,_⟩:=k4 i' hi';rw [hE'] at l1;cases l1;rw [hd] at l3;cases l3
   cases hnc) h.mt.z h.mt.own⟩
 ·obtain ⟨B,K,h1,h2⟩:=h.cell i b hi;refine ⟨B,K,h1,?_⟩;rw [hoth B (fun e=>by subst e;exact hne i K h1)]
  exact h2.mono (E.le_unmark D)
 ·have hz:E.z B o=some v:=hz
  have hc:=h.zw B o v hz
  have:B≠D:=by
   rintro rfl;obtain ⟨x,hx,hx'⟩:=cells_of_cell hc
   have hx:w.heap[B]? = some x:=hx
   rw [hd] at hx;cases hx;rw [hnc] at hx';cases hx'
  exact (World.cell?_of_block (a:=⟨B,o,none⟩) (hoth B this)).trans hc
 ·have hC:(bif Nat.beq C D then none else E.d C)=some o:=hC
  cases hb:Nat.beq C D with
  | true=>rw [hb] at hC;cases hC
  | false=>
   rw [hb] at hC;obtain ⟨q1,q2,q3⟩:=h.dk C o hC;exact ⟨q1,(hoth C (Nat.ne_of_beq_eq_false hb)).trans q2,q3⟩
theorem D2 {C:Cx} {P:Program} {η:Env} (hC:C.Ok P η) {hp:T Blk} {nx lo base:Nat} {w0:World} {tm:T Sv} {a:Act} {fn:Func} {s:Sv} {m:Nat} {R:Ending->World->Prop} (hs:vA C hp tm fn.results.toList=some s):
  ∀ (Ds:List Nat) (E:Emb) (w:World),aF η E hp nx lo base w->(∀ D∈Ds,E.d D=some (.deferred (some [])))->Ds.Nodup->jA η E tm a->Below base w0 w->
   (∀ v E' w',s.den η E'=some v->aF η E' hp nx lo base w'->Below base w0 w'->E'.dl=E.dl->R (.returned v) w')->
   LeavesInM (FW none) m P fn a.tmps R (Ds.map HC) .returning w
 | [],E,w,hH,_,_,hf,hB,hR=>by
  obtain ⟨v,h1,h2⟩:=CI hC hH hf hs;exact ⟨v,h2,hR v E w h1 hH hB rfl⟩
 | D::Ds,E,w,hH,hd,hnd,hf,hB,hR=>by
  have hD:=hd D (List.mem_cons_self ..)
  obtain ⟨hb,hk,_⟩:=hH.dk D _ hD;obtain ⟨n1,n2⟩:=List.nodup_cons.1 hnd;refine ⟨by simp,.inl ⟨D,_,rfl,run_takeDeferred hk,?_⟩⟩
  refine D2 hC hs Ds (E.unmark D) _ (hH.unmark hD rfl _) (fun C hC => ?_) n2 (hf.mono (E.le_unmark D)) (hB.trans ?_) (fun v E' w' h1 h2 h3 h4=>hR v E' w' h1 h2 h3 h4)
  ·show (bif Nat.beq C D then none else E.d C)=some (.deferred (some []))
   cases hc:Nat.beq C D with
   | true=>have:=Nat.eq_of_beq_eq_true hc;subst this;exact absurd hC n1
   | false=>exact hd C (List.mem_cons_of_mem _ hC)
  ·exact (Below.refl base w).grown (grownBy_putObj' w D _) hH.bot (fun k e=>by cases e;exact hb)
theorem KC {C:Cx} {P:Program} {η:Env} (hC:C.Ok P η) {f:FuncId} {fi:FI} (hF:FI.Ok P f fi) {args:List Sv} {Φ:Xt->St->Prop} {n0 nx lo:Nat} {hp:T Blk}
  (hn0:n0<=nx) (G:lo<=nx) (h:dH P η fi.ntmps n0 none ⟨dF 0 args .nil,hp,nx,lo,[]⟩ [.code fi.body] Φ) (hlen:(Nat.ble args.length fi.ntmps&&Nat.ble fi.ntmps 60000)=true) {E0:Emb} {w w0:World} {base:Nat} {vs:List Value}
  (hH:aF η E0 hp nx lo base w) (hB:Below base w0 w) (hv:aD η E0 args=some vs) (hdl:E0.dl.l=[]) {R:Ending->World->Prop} {Ψ:St->Sv->Prop}
  (hx : ∀ x g,Φ x g->(x = .normal∨x = .ret) /\ ∃ s,vA C g.hp g.tm fi.res=some s/\Ψ g s)
  (hR : ∀ g s v E' w',Ψ g s->s.den η E'=some v->aF η E' g.hp g.nx lo base w'->Below base w0 w'->E'.dl.z0=E0.dl.z0->R (.returned v) w'):
  Calls P f vs.toArray w R:=by
 simp only [Bool.and_eq_true] at hlen
 have hb1:=Nat.le_of_ble_eq_true hlen.1
 have hb2:=Nat.le_of_ble_eq_true hlen.2
 obtain ⟨fn,f1,f2,f3,f4,_⟩:=hF.fn
 have hl:=iL hv
 refine (callsIn_wide (n:=10)).1 (callsIn_of_wp_marks (F:=Fence.wide) f1 f2 trivial ?_)
 have hfr:jA η E0 (dF 0 args .nil) { tmps:=vs.toArray++Array.replicate (fn.ntmps-vs.toArray.size) undef,defers:=[] }:=by
  refine mA hv (fun t sv ht=>by simp [T.get_nil] at ht) (by omega) (fun j hj => ?_)
  have:j<vs.length:=by omega
  simp [Array.getElem?_append,this]
 have hS:cP η E0 fi.ntmps base w0 ⟨dF 0 args .nil,hp,nx,lo,[]⟩ { tmps:=vs.toArray++Array.replicate (fn.ntmps-vs.toArray.size) undef,defers:=[] } w:=
  ⟨hfr,by simp [f3,hl];omega,hb2,hdl.symm,hH,hB,G,fun x hx=>by cases hx⟩
 have:=h 10 E0 base w0 _ w (bodyPostM Fence.wide 10 P fn R) (fun _=>Nat.le_refl _) hS hn0 ?_
 ·rw [dA] at this;refine wpIn_mono this fun e a w he => ?_
  cases e with
  | normal=>rw [eJ,vX] at he;exact he
  | _=>rw [b9 (by simp),nN] at he;exact he
 ·intro x g E' a' w' hΦ hA hn hlo' hS';obtain ⟨hxx,s,hs,hΨ⟩:=hx x g hΦ
  have hlo':g.lo=lo:=hlo'
  obtain ⟨Ds,e1,e2,e3⟩:=hA.dl
  have hd:a'.defers=Ds.map HC:=by rw [hS'.df,e1,hdl,List.append_nil]
  have key:LeavesInM (FW none) 10 P fn a'.tmps R (Ds.map HC) .returning w':=by
   refine D2 hC (by rw [f4];exact hs) Ds E' w' hS'.hr (fun D hD=>(e3 D hD).1) e2 hS'.fr hS'.bl (fun v E'' w'' q1 q2 q3 q4=>hR g s v E'' w'' hΨ q1 (by rw [←hlo'];exact q2) q3 (by rw [q4];exact hA.z0))
  rcases hxx with rfl | rfl
  ·show LeavesInM Fence.wide 10 P fn a'.tmps R a'.defers .returning w'
   rw [hd];exact key
  ·show LeavesInM Fence.wide 10 P fn a'.tmps R a'.defers .returning w'
   rw [hd];exact key
inductive PT where
 | one (s:Sh)
 | agg (l:List Sh)
def TL (s:Sh)(c:Sc):Option FD:=
 match s,c with
 | .bool,.bool (.lit b)=>some (.bool b)
 | .bool,.bool (.at_ false (.tm b))=>some (.bool b)
 | .bool,.bool (.at_ true (.tm b))=>some (.bool (!b))
 | .int k,.int k' x=>bif decide (k=k') then (match jB x with
  | some n=>some (.int k n)
  | none=>none) else none
 | .str,.str l=>some (.str l)
 | .str,.ostr l=>some (.str l)
 | .list cs,.fz _ (.list cs' n f)=>bif shL cs cs' then some (.list cs n f) else none
 | .list cs,.slice none 0 (.known 0)=>some (.list cs 0 fun _ _ => .bool false)
 | _,_=>none
theorem yH {η:Env} {E:Emb} {s:Sh} {c:Sc} {d:FD} {v:Value} (h:TL s c=some d) (hv:c.den η E=some v):s.ex d=d/\bK E.z d v:=by
 unfold TL at h;split at h<;>first | (cases h;done) | skip
 ·cases h;cases hv;exact ⟨rfl,rfl⟩
 ·cases h;cases hv;exact ⟨rfl,by simp [bK,Bx.den,fK.den]⟩
 ·cases h;cases hv;exact ⟨rfl,by simp [bK,Bx.den,fK.den]⟩
 ·rename_i k k' x
  cases hk:decide (k=k') with
  | false=>rw [hk] at h;cases h
  | true=>
   rw [hk] at h
   have:=of_decide_eq_true hk
   subst this;simp only [cond_true] at h;split at h
   ·rename_i n hn
    cases h;cases hv
    exact ⟨rfl,by simp [bK,cS hn]⟩
   ·cases h
 ·cases h;cases hv;exact ⟨rfl,rfl⟩
 ·cases h;cases hv;exact ⟨rfl,rfl⟩
 ·rename_i cs r cs' n f
  cases hc:shL cs cs' with
  | false=>rw [hc] at h;cases h
  | true=>
   rw [hc] at h;cases h
   have:=J9 _ _ hc
   subst this;exact ⟨rfl,(aP.1 hv).2⟩
 ·cases h;cases hv
  exact ⟨rfl,none,0,rfl,Nat.le_refl _,by decide,.inl rfl⟩
def KD:List Sh->List Sc->Option (List FD)
 | [],[]=>some []
 | s::l,c::m=>match TL s c,KD l m with
  | some d,some ds=>some (d::ds)
  | _,_=>none
 | _,_=>none
def mJ:List PT->List Sv->Option (List FD)
 | [],[]=>some []
 | .one s::l,.one c::m=>match TL s c,mJ l m with
  | some d,some ds=>some (d::ds)
  | _,_=>none
 | .agg cs::l,.agg c::m=>match KD cs c,mJ l m with
  | some d,some ds=>some (d++ds)
  | _,_=>none
 | _,_=>none
def IB:Nat->List Sh->List FD->List Sc
 | k,s::l,d::ds=>dD (.root 0 k) s d::IB (k+1) l ds
 | _,_,_=>[]
def j0:Nat->List PT->List FD->List Sv
 | k,.one s::l,d::ds => .one (dD (.root 0 k) s d)::j0 (k+1) l ds
 | k,.agg cs::l,ds => .agg (IB k cs ds)::j0 (k+cs.length) l (ds.drop cs.length)
 | _,_,_=>[]
def cellsOf:List PT->List Value->List Value
 | .one _::l,v::vs=>v::cellsOf l vs
 | .agg _::l,v::vs=>v.cells.toList++cellsOf l vs
 | _,_=>[]
def Q5 (d:FD):Prop := ∃ z v,bK z d v
theorem Q5.len {cs:List Sh} {n:Nat} {f:Nat->Nat->FD} (h:Q5 (.list cs n f)):n<=maxLen:=by
 obtain ⟨z,v,a,c,_,h1,h2,_⟩:=h;exact Nat.le_trans h1 h2
theorem Q5.at {cs:List Sh} {n:Nat} {f:Nat->Nat->FD} (h:Q5 (.list cs n f)) {i j:Nat} (hi:i<n) (hj:j<cs.length):(jW cs j).ex (f i j)=f i j/\Q5 (f i j):=by
 obtain ⟨z,v,a,c,_,_,_,h3⟩:=h
 rcases h3 with h3 | ⟨B,o,_,h3⟩
 ·omega
 ·obtain ⟨h4,u,_,h5⟩:=h3 i hi j hj;exact ⟨h4,z,u,h5⟩
def FitL:List Sh->List FD->Prop
 | [],[]=>True
 | s::l,d::ds=>(s.ex d=d/\Q5 d)/\FitL l ds
 | _,_=>False
theorem FitL.nil {ds:List FD} (h:FitL [] ds):ds=[]:=by
 cases ds with
 | nil=>rfl
 | cons d ds=>exact h.elim
theorem FitL.int {k:IntKind} {l:List Sh} {fds:List FD} (h:FitL (.int k::l) fds) : ∃ n ds,fds = .int k n::ds/\FitL l ds:=by
 cases fds with
 | nil=>exact h.elim
 | cons d ds=>exact ⟨d.i,ds,by rw [show FD.int k d.i=d from h.1.1],h.2⟩
theorem FitL.bool {l:List Sh} {fds:List FD} (h:FitL (.bool::l) fds) : ∃ b ds,fds = .bool b::ds/\FitL l ds:=by
 cases fds with
 | nil=>exact h.elim
 | cons d ds=>exact ⟨d.b,ds,by rw [show FD.bool d.b=d from h.1.1],h.2⟩
theorem FitL.str {l:List Sh} {fds:List FD} (h:FitL (.str::l) fds) : ∃ b ds,fds = .str b::ds/\FitL l ds:=by
 cases fds with
 | nil=>exact h.elim
 | cons d ds=>exact ⟨d.s,ds,by rw [show FD.str d.s=d from h.1.1],h.2⟩
theorem FitL.list {cs:List Sh} {l:List Sh} {fds:List FD} (h:FitL (.list cs::l) fds) : ∃ n f ds,fds = .list cs n f::ds/\Q5 (.list cs n f)/\FitL l ds:=by
 cases fds with
 | nil=>exact h.elim
 | cons d ds=>
  have e:FD.list cs d.ln d.fn=d:=h.1.1
  exact ⟨d.ln,d.fn,ds,by rw [e],by rw [e];exact h.1.2,h.2⟩
def sigS:List PT->List Sh
 | []=>[]
 | .one s::l=>s::sigS l
 | .agg cs::l=>cs++sigS l
theorem FitL.append : ∀ {l m:List Sh} {a b:List FD},FitL l a->FitL m b->FitL (l++m) (a++b)
 | [],_,[],_,_,h=>h
 | s::l,m,d::a,b,h,h'=>⟨h.1,FitL.append h.2 h'⟩
 | [],_,_::_,_,h,_=>h.elim
 | _::_,_,[],_,h,_=>h.elim
theorem N3 {η:Env} {E E0:Emb} (hz:E0.z=E.z) : ∀ {l:List Sh} {m:List Sc} {ds ds':List FD} {vs:List Value} {k:Nat},KD l m=some ds->aQ η E m=some vs->(∀ i v,vs[i]? = some v->E0.r 0 (k+i)=some v)->
  aQ η E0 (IB k l (ds++ds'))=some vs/\FitL l ds/\ds.length=l.length
 | [],[],ds,ds',vs,k,h,hv,_=>by cases h;cases hv;exact ⟨rfl,trivial,rfl⟩
 | s::l,c::m,ds,ds',vs,k,h,hv,hr=>by
  simp only [KD] at h;split at h
  ·rename_i d ds1 h1 h2
   cases h
   obtain ⟨v,us,e1,e2,rfl⟩:=aR hv;obtain ⟨g1,g2⟩:=yH h1 e1;obtain ⟨q1,q2,q3⟩:=N3 hz (ds':=ds') (k:=k+1) h2 e2 (fun i u hi=>by have:=hr (i+1) u (by simpa using hi);rwa [show k+1+i=k+(i+1) by omega])
   refine ⟨?_,⟨⟨g1,_,_,g2⟩,q2⟩,by simp [q3]⟩
   show aQ η E0 (dD (.root 0 k) s d::IB (k+1) l (ds1++ds'))=_
   have:=nK (η:=η) (E:=E0) (r := .root 0 k) g1 (by rw [hz];exact g2) (hr 0 v rfl)
   simp only [aQ,this,q1]
  ·cases h
 | [],_::_,_,_,_,_,h,_,_=>by cases h
 | _::_,[],_,_,_,_,h,_,_=>by cases h
theorem iG {η:Env} {E E0:Emb} (hz:E0.z=E.z) : ∀ {l:List PT} {m:List Sv} {ds:List FD} {vs:List Value} {k:Nat},mJ l m=some ds->aD η E m=some vs->(∀ i v,(cellsOf l vs)[i]? = some v->E0.r 0 (k+i)=some v)->
  aD η E0 (j0 k l ds)=some vs/\FitL (sigS l) ds
 | [],[],ds,vs,k,h,hv,_=>by cases h;cases hv;exact ⟨rfl,trivial⟩
 | .one s::l,.one c::m,ds,vs,k,h,hv,hr=>by
  simp only [mJ] at h;split at h
  ·rename_i d ds1 h1 h2
   cases h
   obtain ⟨v,us,e1,e2,rfl⟩:=aI hv;obtain ⟨g1,g2⟩:=yH h1 e1;obtain ⟨q1,q2⟩:=iG hz (k:=k+1) h2 e2 (fun i u hi=>by have:=hr (i+1) u (by simpa [cellsOf] using hi);rwa [show k+1+i=k+(i+1) by omega])
   refine ⟨?_,⟨⟨g1,_,_,g2⟩,q2⟩⟩
   have:=nK (η:=η) (E:=E0) (r := .root 0 k) g1 (by rw [hz];exact g2) (hr 0 v (by simp [cellsOf]))
   simp only [j0,aD,Sv.den,this,q1]
  ·cases h
 | .agg cs::l,.agg c::m,ds,vs,k,h,hv,hr=>by
  simp only [mJ] at h;split at h
  ·rename_i d ds1 h1 h2
   cases h
   obtain ⟨v,us,e1,e2,rfl⟩:=aI hv;obtain ⟨ws,g1,rfl⟩:=gV e1
   have hwl:=bC g1
   obtain ⟨p1,p2,p3⟩:=N3 hz (ds':=ds1) (k:=k) h1 g1 (fun i u hi=>hr i u (by
    simp only [cellsOf,Value.cells];rw [List.getElem?_append_left (by simpa using (List.getElem?_eq_some_iff.1 hi).1)];exact hi))
   have hcl:c.length=cs.length:=by
    have : ∀ {l:List Sh} {m:List Sc} {ds:List FD},KD l m=some ds->m.length=l.length:=by
     intro l
     induction l with
     | nil=>intro m ds h;cases m with
      | nil=>rfl
      | cons _ _=>cases h
     | cons s l ih=>
      intro m ds h
      cases m with
      | nil=>cases h
      | cons c m=>
       simp only [KD] at h;split at h
       ·rename_i h2;simp [ih h2]
       ·cases h
    exact this h1
   obtain ⟨q1,q2⟩:=iG hz (k:=k+cs.length) h2 e2 (fun i u hi=>by
    have:=hr (cs.length+i) u (by
     simp only [cellsOf,Value.cells];rw [List.getElem?_append_right (by simp [hwl,hcl])]
     simpa [hwl,hcl] using hi)
    rwa [show k+cs.length+i=k+(cs.length+i) by omega])
   refine ⟨?_,FitL.append p2 q2⟩
   have hdrop:(d++ds1).drop cs.length=ds1:=by rw [←p3];simp
   simp only [j0,aD,Sv.den,p1,hdrop,q1,Option.map_some]
  ·cases h
 | [],_::_,_,_,_,h,_,_=>by cases h
 | .one _::_,[],_,_,_,h,_,_=>by cases h
 | .agg _::_,[],_,_,_,h,_,_=>by cases h
 | .one _::_,.agg _::_,_,_,_,h,_,_=>by cases h
 | .one _::_,.tup _::_,_,_,_,h,_,_=>by cases h
 | .one _::_,.undef::_,_,_,_,h,_,_=>by cases h
 | .agg _::_,.one _::_,_,_,_,h,_,_=>by cases h
 | .agg _::_,.tup _::_,_,_,_,h,_,_=>by cases h
 | .agg _::_,.undef::_,_,_,_,h,_,_=>by cases h
end
end Go.Ex
namespace Go.Ex
open Go Go.RowKit
noncomputable section
inductive RT where
 | one (s:Sh)
 | agg (l:List Sh)
 | tup (l:List PT)
def qF (fds:List FD):Nat->List Sh->List Sc
 | _,[]=>[]
 | k,s::l=>dD (.root 0 k) s (bD fds k)::qF fds (k+1) l
def mK (fds:List FD):Nat->List PT->List (Bool × List Sc)
 | _,[]=>[]
 | k,.one s::l=>(false,[dD (.root 0 k) s (bD fds k)])::mK fds (k+1) l
 | k,.agg cs::l=>(true,qF fds k cs)::mK fds (k+cs.length) l
def nP (rt:RT)(fds:List FD):Sv:=
 match rt with
 | .one s => .one (dD (.root 0 0) s (bD fds 0))
 | .agg l => .agg (qF fds 0 l)
 | .tup l => .tup (mK fds 0 l)
def D3 (hp:T Blk)(s:Sh)(c:Sc)(d:FD):Prop:=
 match s,c with
 | .bool,.bool (.lit b)=>d.b=b
 | .bool,.bool (.at_ false (.tm b))=>d.b=b
 | .bool,.bool (.at_ true (.tm b))=>d.b = !b
 | .int k,.int k' (.lit n)=>k=k'/\d.i=n
 | .int k,.int k' (.tm n)=>k=k'/\d.i=n
 | .str,.str l=>d.s=l
 | .str,.ostr l=>d.s=l
 | .list _,.slice none 0 (.known 0)=>d.ln=0
 | .list _,.slice (some (b,0)) 0 (.rest 0)=>d.ln=0/\match hp.get b with
  | some (.cells _ _ _)=>True
  | _=>False
 | .list cs,.own b n=>1<=b/\match hp.get b with
  | some (.row _ cs' n' f)=>cs'=cs/\n'=n/\d.ln=n /\ ∀ i,i<n -> ∀ j,j<cs.length->d.fn i j=f i j
  | some (.mat q _ s n' x m f)=>((cs=[.list [s]]/\1<=q)/\n'=n/\x=n)/\d.ln=n /\ ∀ i,i<n->(Sh.list [s]).ex (d.fn i 0)=d.fn i 0/\(d.fn i 0).ln=m /\ ∀ k,k<m->(d.fn i 0).fn k 0=f i k
  | _=>False
 | .list cs,.fz (.root k _) (.list cs' n f)=>1<=k/\cs'=cs/\d.ln=n /\ ∀ i,i<n -> ∀ j,j<cs.length->d.fn i j=f i j
 | _,_=>False
def XX (hp:T Blk)(fds:List FD):Nat->List Sh->List Sc->Prop
 | _,[],[]=>True
 | k,s::l,c::m=>D3 hp s c (bD fds k)/\XX hp fds (k+1) l m
 | _,_,_=>False
def N4 (hp:T Blk)(fds:List FD):Nat->List PT->List (Bool × List Sc)->Prop
 | _,[],[]=>True
 | k,.one s::l,(false,[c])::m=>D3 hp s c (bD fds k)/\N4 hp fds (k+1) l m
 | k,.agg cs::l,(true,m)::r=>XX hp fds k cs m/\N4 hp fds (k+cs.length) l r
 | _,_,_=>False
def KE (hp:T Blk)(rt:RT)(fds:List FD)(s:Sv):Prop:=
 match rt,s with
 | .one sh,.one c=>D3 hp sh c (bD fds 0)
 | .agg l,.agg m=>XX hp fds 0 l m
 | .tup l,.tup m=>N4 hp fds 0 l m
 | _,_=>False
theorem fR {b:Nat} {v:Value} (h : ∀ a n c,v ≠ .slice a n c):pZ b v:=fun a n c e=>absurd e (h _ _ _)
theorem yI (n k:Nat)(s:Sh)(d:FD):l0 n (dD (.root 0 k) s d)=dD (.root n k) s d:=by
 cases s<;>rfl
theorem yJ {η:Env} {E EA:Emb} {hp:T Blk} {nx lo base:Nat} {w:World} (hH:aF η E hp nx lo base w) (G:lo<=1) (hz : ∀ B o u,E.z B o=some u->EA.z B o=some u) (hw : ∀ B o u,base<=B->w.cell? ⟨B,o,none⟩=some u->EA.z B o=some u)
  {s:Sh} {c:Sc} {d:FD} {u:Value} {n k:Nat} (h:D3 hp s c d) (hu:c.den η E=some u) (hr:EA.r n k=some u):(dD (.root n k) s d).den η EA=some u/\pZ base u:=by
 unfold D3 at h;split at h<;>first | (cases h;done) | skip
 ·cases hu;exact ⟨by simp only [dD,Sc.den,d7,h];rfl,fR (by simp)⟩
 ·rename_i b;cases hu;exact ⟨by simp only [dD,Sc.den,d7,h];simp [Bx.den,fK.den],fR (by simp)⟩
 ·rename_i b;cases hu;exact ⟨by simp only [dD,Sc.den,d7,h];simp [Bx.den,fK.den],fR (by simp)⟩
 ·cases hu;obtain ⟨rfl,h⟩:=h;exact ⟨by simp [dD,Sc.den,Ix.den,h],fR (by simp)⟩
 ·cases hu;obtain ⟨rfl,h⟩:=h;exact ⟨by simp [dD,Sc.den,Ix.den,h],fR (by simp)⟩
 ·cases hu;exact ⟨by simp [dD,Sc.den,h],fR (by simp)⟩
 ·cases hu;exact ⟨by simp [dD,Sc.den,h],fR (by simp)⟩
 ·cases hu
  refine ⟨aP.2 ⟨hr,?_⟩,fun a n c e _=>by cases e⟩
  rw [h];exact ⟨none,0,rfl,Nat.le_refl _,by decide,.inl rfl⟩
 ·rename_i b;obtain ⟨h0,h⟩:=h;split at h
  ·rename_i e sz l hb;simp only [Sc.den] at hu;split at hu
   ·rename_i X hB;split at hu
    ·cases hu
     obtain ⟨B',K',hE',c,vs,rest,h1,h2,h3,_⟩:=hH.cell b _ hb;rw [hB] at hE';cases hE';refine ⟨aP.2 ⟨hr,_,_,by rw [h0],by omega,by simp only;omega,.inl h0⟩,fun a n c e hn=>by cases e;omega⟩
    ·cases hu
   ·cases hu
  ·cases h
 ·rename_i cs b m;obtain ⟨hb1,h⟩:=h;split at h
  ·rename_i e cs' n' f hb;obtain ⟨rfl,rfl,hln,hf⟩:=h;obtain ⟨B,K,hE,rfl,hnK⟩:=iQ (η:=η) (b:=b) (n:=n') hu
   have hB:=hH.hi b B K (by omega) hE
   obtain ⟨B',K',hE',c,h1,h2,h3,h4,h5,h6⟩:=hH.cell b _ hb;rw [hE] at hE';cases hE';refine ⟨aP.2 ⟨hr,_,_,by rw [hln],by rw [hln];exact h3,h4,.inr ⟨B,0,rfl,fun i hi j hj => ?_⟩⟩,fun a n c e _=>by cases e;exact hB⟩
   rw [hln] at hi;obtain ⟨k1,x,k2,k3⟩:=h6 i hi j hj;rw [hf i hi j hj];refine ⟨k1,x,hw _ _ _ hB ?_,k3.mono hz⟩;rw [Nat.zero_add,cell_of_row w B _ c e (0,0) h1,k2]
  ·rename_i q e s n' x m' f hb;obtain ⟨⟨⟨rfl,hq⟩,rfl,rfl⟩,hln,hf⟩:=h;obtain ⟨B,K,hE,rfl,hnK⟩:=iQ (η:=η) (b:=b) (n:=x) hu
   have hB:=hH.hi b B K (by omega) hE
   obtain ⟨B',K',hE',c0,h0,_,_,h4⟩:=hH.cell b _ hb;rw [hE] at hE';cases hE';obtain ⟨B',K',c,hE',h1,h2,h3,_⟩:=hH.mt.row _ _ _ _ _ _ _ _ hb;rw [hE] at hE';cases hE';refine ⟨aP.2 ⟨hr,_,_,by rw [hln],by rw [hln];exact hnK,h4,.inr ⟨B,0,rfl,fun i hi j hj => ?_⟩⟩,fun a n c e _=>by cases e;exact hB⟩
   rw [hln] at hi
   have hj0:j=0:=by simp at hj;exact hj
   subst hj0;obtain ⟨r1,r2,r3⟩:=hf i hi;obtain ⟨C,L,k1,k2,c2,e2,k3,k4,k5,k6,k7⟩:=h3 i hi;refine ⟨r1,_,hw _ _ _ hB (by rw [cell_of_row w B _ c e (0,0) h1];simpa using k2),?_⟩
   rw [←r1]
   show ∃ a c,_=Value.slice a (d.fn i 0).ln c/\_
   rw [r2]
   have hC:=hH.mt.hi _ _ _ _ (show lo<=q by omega) k1
   refine ⟨_,_,rfl,k5,k6,.inr ⟨C,0,rfl,fun k hk j' hj' => ?_⟩⟩
   have hj0:j'=0:=by simp at hj';exact hj'
   subst hj0;obtain ⟨p1,u,p2,p3⟩:=k7 k hk;rw [r3 k hk];refine ⟨p1,u,hw _ _ _ hC (by rw [cell_of_row w C _ c2 e2 (0,0) k3];simpa using p2),p3.mono hz⟩
  ·cases h
 ·rename_i cs r j cs' m f;obtain ⟨hr1,rfl,hln,hf⟩:=h;obtain ⟨q1,a,c,rfl,q2,q3,q4⟩:=aP.1 hu;refine ⟨aP.2 ⟨hr,a,c,by rw [hln],by rw [hln];exact q2,q3,?_⟩,hH.rn.1 r j _ (by omega) q1⟩
  rw [hln]
  rcases q4 with q4 | ⟨B,o,ea,q4⟩
  ·exact .inl q4
  ·refine .inr ⟨B,o,ea,fun i hi j hj => ?_⟩
   obtain ⟨k1,x,k2,k3⟩:=q4 i hi j hj;rw [hf i hi j hj];exact ⟨k1,x,hz _ _ _ k2,k3.mono hz⟩
theorem D4 {η:Env} {E EA:Emb} {hp:T Blk} {nx lo base:Nat} {w:World} (hH:aF η E hp nx lo base w) (G:lo<=1) (hz : ∀ B o u,E.z B o=some u->EA.z B o=some u) (hw : ∀ B o u,base<=B->w.cell? ⟨B,o,none⟩=some u->EA.z B o=some u)
  {fds:List FD} {n:Nat} : ∀ {l:List Sh} {m:List Sc} {vs:List Value} {k:Nat},XX hp fds k l m->aQ η E m=some vs->(∀ i u,vs[i]? = some u->EA.r n (k+i)=some u)->
  aQ η EA ((qF fds k l).map (l0 n))=some vs/\(∀ u∈vs,pZ base u)/\vs.length=l.length
 | [],[],vs,k,_,hv,_=>by cases hv;exact ⟨rfl,(fun _ h=>by cases h),rfl⟩
 | s::l,c::m,vs,k,h,hv,hr=>by
  obtain ⟨v,us,e1,e2,rfl⟩:=aR hv;obtain ⟨q1,q2⟩:=yJ hH G hz hw h.1 e1 (hr 0 v rfl);obtain ⟨p1,p2,p3⟩:=D4 hH G hz hw (k:=k+1) h.2 e2 (fun i u hi=>by have:=hr (i+1) u (by simpa using hi);rwa [show k+1+i=k+(i+1) by omega])
  refine ⟨?_,fun u hu => ?_,by simp [p3]⟩
  ·simp only [qF,List.map_cons,yI,aQ];rw [show k+0=k by omega] at q1
   rw [q1,p1]
  ·rcases List.mem_cons.1 hu with rfl | hu
   ·exact q2
   ·exact p2 u hu
 | [],_::_,_,_,h,_,_=>h.elim
 | _::_,[],_,_,h,_,_=>h.elim
def oV:List (Bool × List Sc)->List Value->List Value
 | (false,_)::l,v::vs=>v::oV l vs
 | (true,_)::l,v::vs=>v.cells.toList++oV l vs
 | _,_=>[]
def lQ:Sv->Value->List Value
 | .one _,v=>[v]
 | .agg _,v=>v.cells.toList
 | .tup l,.tuple vs=>oV l vs.toList
 | _,_=>[]
theorem jP {η:Env} {E:Emb} {p:Bool × List Sc} {l:List (Bool × List Sc)} {vs:List Value} (h:aN η E (p::l)=some vs) : ∃ v us,bL η E p=some v/\aN η E l=some us/\vs=v::us:=by
 simp only [aN] at h;split at h
 ·rename_i v us h1 h2
  cases h
  exact ⟨v,us,h1,h2,rfl⟩
 ·cases h
theorem yK {η:Env} {E EA:Emb} {hp:T Blk} {nx lo base:Nat} {w:World} (hH:aF η E hp nx lo base w) (G:lo<=1) (hz : ∀ B o u,E.z B o=some u->EA.z B o=some u) (hw : ∀ B o u,base<=B->w.cell? ⟨B,o,none⟩=some u->EA.z B o=some u)
  {fds:List FD} {n:Nat} : ∀ {l:List PT} {m:List (Bool × List Sc)} {vs:List Value} {k:Nat},N4 hp fds k l m->aN η E m=some vs->(∀ i u,(oV m vs)[i]? = some u->EA.r n (k+i)=some u)->
  aN η EA ((mK fds k l).map fun p=>(p.1,p.2.map (l0 n)))=some vs /\ ∀ u∈oV m vs,pZ base u
 | [],[],vs,k,_,hv,_=>by cases hv;exact ⟨rfl,(fun _ h=>by cases h)⟩
 | .one s::l,(false,[c])::m,vs,k,h,hv,hr=>by
  obtain ⟨v,us,e1,e2,rfl⟩:=jP hv;obtain ⟨q1,q2⟩:=yJ hH G hz hw h.1 e1 (hr 0 v (by simp [oV]))
  obtain ⟨p1,p2⟩:=yK hH G hz hw (k:=k+1) h.2 e2 (fun i u hi=>by have:=hr (i+1) u (by simpa [oV] using hi);rwa [show k+1+i=k+(i+1) by omega])
  refine ⟨?_,fun u hu => ?_⟩
  ·simp only [mK,List.map_cons,List.map_nil,yI,aN,bL];rw [show k+0=k by omega] at q1
   rw [q1,p1]
  ·rcases List.mem_cons.1 hu with rfl | hu
   ·exact q2
   ·exact p2 u hu
 | .agg cs::l,(true,c)::m,vs,k,h,hv,hr=>by
  obtain ⟨v,us,e1,e2,rfl⟩:=jP hv
  have e1':(Sv.agg c).den η E=some v:=e1
  obtain ⟨ws,g1,rfl⟩:=gV e1';obtain ⟨q1,q2,q3⟩:=D4 hH G hz hw h.1 g1 (fun i u hi=>hr i u (by
   simp only [oV,Value.cells];rw [List.getElem?_append_left (by simpa using (List.getElem?_eq_some_iff.1 hi).1)];exact hi))
  obtain ⟨p1,p2⟩:=yK hH G hz hw (k:=k+cs.length) h.2 e2 (fun i u hi=>by
   have:=hr (cs.length+i) u (by
    simp only [oV,Value.cells];rw [List.getElem?_append_right (by simp [q3])]
    simpa [q3] using hi)
   rwa [show k+cs.length+i=k+(cs.length+i) by omega])
  refine ⟨?_,fun u hu => ?_⟩
  ·simp only [mK,List.map_cons,aN,bL,q1,p1,Option.map_some]
  ·rcases List.mem_append.1 hu with hu | hu
   ·exact q2 u (by simpa [Value.cells] using hu)
   ·exact p2 u hu
 | [],_::_,_,_,h,_,_=>h.elim
 | .one _::_,[],_,_,h,_,_=>h.elim
 | .agg _::_,[],_,_,h,_,_=>h.elim
 | .one _::_,(true,_)::_,_,_,h,_,_=>h.elim
 | .one _::_,(false,[])::_,_,_,h,_,_=>h.elim
 | .one _::_,(false,_::_::_)::_,_,_,h,_,_=>h.elim
 | .agg _::_,(false,[])::_,_,_,h,_,_=>h.elim
 | .agg _::_,(false,_::_)::_,_,_,h,_,_=>h.elim
theorem N5 {η:Env} {E EA:Emb} {hp:T Blk} {nx lo base:Nat} {w:World} (hH:aF η E hp nx lo base w) (G:lo<=1) (hz : ∀ B o u,E.z B o=some u->EA.z B o=some u) (hw : ∀ B o u,base<=B->w.cell? ⟨B,o,none⟩=some u->EA.z B o=some u)
  {fds:List FD} {n:Nat} {rt:RT} {s:Sv} {v:Value} (h:KE hp rt fds s) (hv:s.den η E=some v) (hr : ∀ i u,(lQ s v)[i]? = some u->EA.r n i=some u):
  (kI n (nP rt fds)).den η EA=some v /\ ∀ u∈lQ s v,pZ base u:=by
 cases rt with
 | one sh=>
  cases s with
  | one c=>
   obtain ⟨q1,q2⟩:=yJ (k:=0) hH G hz hw h hv (hr 0 v rfl);refine ⟨?_,fun u hu=>by simp [lQ] at hu;subst hu;exact q2⟩
   simp only [nP,kI,yI,Sv.den];exact q1
  | _=>exact h.elim
 | agg l=>
  cases s with
  | agg m=>
   obtain ⟨ws,g1,rfl⟩:=gV hv;obtain ⟨q1,q2,_⟩:=D4 (k:=0) hH G hz hw h g1 (fun i u hi=>by rw [Nat.zero_add];exact hr i u (by simpa [lQ,Value.cells] using hi))
   refine ⟨?_,fun u hu=>q2 u (by simpa [lQ,Value.cells] using hu)⟩
   simp only [nP,kI,Sv.den,q1,Option.map_some]
  | _=>exact h.elim
 | tup l=>
  cases s with
  | tup m=>
   simp only [Sv.den,Option.map_eq_some_iff] at hv;obtain ⟨ws,g1,rfl⟩:=hv;obtain ⟨q1,q2⟩:=yK (k:=0) hH G hz hw h g1 (fun i u hi=>by rw [Nat.zero_add];exact hr i u (by simpa [lQ] using hi))
   refine ⟨?_,fun u hu=>q2 u (by simpa [lQ] using hu)⟩
   simp only [nP,kI,Sv.den,q1,Option.map_some]
  | _=>exact h.elim
def BO (y:List PT)(fds:List FD):St:=⟨dF 0 (j0 0 y fds) .nil,.nil,1,1,[]⟩
def yL (E:Emb)(vs:List Value):Emb:=⟨fun _=>none,fun k j=>if k=0 then vs[j]? else none,E.z,fun _=>none,⟨[],E.z⟩,fun _ _=>none⟩
theorem t7 {η:Env} {E:Emb} {w:World} (hz:ZW E w) (vs:List Value):aF η (yL E vs) .nil 1 1 w.heap.size w:=
 ⟨(fun i b h=>by simp [T.get_nil] at h),(fun i b h=>by simp [T.get_nil] at h),(fun i j b c B C K L _ h=>by simp [T.get_nil] at h),(fun i B K _ h=>by cases h),(fun i B K h=>by cases h),Nat.le_refl _,(fun i _=>rfl),by decide,hz,(fun i b B K h=>by simp [T.get_nil] at h),
  (fun k hk j=>by show (if k=0 then _ else none)=none;rw [if_neg (by omega)]),(fun D o h=>by cases h),⟨(fun k j v hk h=>by
   have h:(if k=0 then vs[j]? else none)=some v:=h
   rw [if_neg (by omega)] at h;cases h),(fun _ _ _ _ h=>h)⟩,xZ.empty (fun _ _=>rfl) (fun b q e s n x m f h=>by simp [T.get_nil] at h)⟩
def VJ (C:Cx)(fi:FI)(rt:RT)(r:List FD):Xt->St->Prop:=fun x g=>match x with
 | .exit _=>False
 | _=>match vA C g.hp g.tm fi.res with
  | some s=>KE g.hp rt r s
  | none=>False
theorem VJ.out {C:Cx} {fi:FI} {rt:RT} {r:List FD} {x:Xt} {g:St} (h:VJ C fi rt r x g):(x = .normal∨x = .ret) /\ ∃ s,vA C g.hp g.tm fi.res=some s/\KE g.hp rt r s:=by
 have key:(match vA C g.hp g.tm fi.res with
  | some s=>KE g.hp rt r s
  | none=>False) -> ∃ s,vA C g.hp g.tm fi.res=some s/\KE g.hp rt r s:=by
  intro h;split at h
  ·rename_i s hs;exact ⟨s,hs,h⟩
  ·exact h.elim
 cases x with
 | exit i=>exact h.elim
 | normal=>exact ⟨.inl rfl,key h⟩
 | ret=>exact ⟨.inr rfl,key h⟩
def cT (C:Cx)(P:Program)(η:Env)(f:FuncId)(fi:FI)(y:List PT)(rt:RT)(ck:List FD->Bool)(F:List FD->List FD):Prop:=
 FI.Ok P f fi /\ ∀ fds,FitL (sigS y) fds->ck fds=true->((Nat.ble (j0 0 y fds).length fi.ntmps&&Nat.ble fi.ntmps 60000)=true/\dH P η fi.ntmps 0 none (BO y fds) [.code fi.body] (VJ C fi rt (F fds)))
def gFd (y:List PT)(rt:RT)(ck:List FD->Bool)(F:List FD->List FD):List Sv->PC->aB (Sv × PC):=fun svs pc=>
 match mJ y svs with
 | some fds=>chk (ck fds) (.leaf (nP rt (F fds),pc))
 | none => .fail
theorem TM {C:Cx} {P:Program} {η:Env} (hC:C.Ok P η) {f:FuncId} {fi:FI} {y:List PT} {rt:RT} {ck:List FD->Bool} {F:List FD->List FD} (h:cT C P η f fi y rt ck F):
  ∀ svs pc r pc',(gFd y rt ck F svs pc).at_ η=some (r,pc')->(∃ fds,r=nP rt fds)/\pc'=pc /\ ∀ E args w,ZW E w->aD η E svs=some args -> ∀ n,Calls P f args.toArray w fun e w' => ∃ v rr,e = .returned v/\Below w.heap.size w w'/\(∀ j u,rr j=some u->pZ w.heap.size u)/\(kI n r).den η (Go.Ex.addE E w w' rr n)=some v:=by
 intro svs pc r pc' hg;unfold gFd at hg;split at hg
 ·rename_i fds hfds;obtain ⟨hck,hg⟩:=eZ hg
  cases hg
  refine ⟨⟨_,rfl⟩,rfl,fun E args w hz hv n => ?_⟩
  obtain ⟨q1,q2⟩:=iG (η:=η) (E:=E) (E0:=yL E (cellsOf y args)) rfl (k:=0) hfds hv (fun i v hi=>by rw [Nat.zero_add];exact hi)
  obtain ⟨k1,k2⟩:=h.2 fds q2 hck;refine KC hC h.1 (n0:=0) (nx:=1) (lo:=1) (Nat.zero_le _) (Nat.le_refl _) k2 k1 (t7 hz _) (Below.refl _ _) q1 rfl (Ψ:=fun g s=>KE g.hp rt (F fds) s) (fun x g hx=>hx.out) ?_
  intro g s v E' w' he hd hH hB hz0
  have hEA : ∀ B o u,E'.z B o=some u->(Go.Ex.addE E w w' (fun j=>(lQ s v)[j]?) n).z B o=some u:=fun B o u hu=>by
   simp only [Go.Ex.addE];split
   ·exact hH.zw B o u hu
   ·have:=hH.rn.2 B o u (by omega) hu
    rw [hz0] at this;exact this
  obtain ⟨e1,e2⟩:=N5 (EA:=Go.Ex.addE E w w' (fun j=>(lQ s v)[j]?) n) (n:=n) hH (Nat.le_refl _) hEA (fun B o u hb hu=>by simp only [Go.Ex.addE,if_pos hb];exact hu) he hd (fun i u hi=>by simp only [Go.Ex.addE,if_true];exact hi)
  exact ⟨v,fun j=>(lQ s v)[j]?,rfl,hB,fun j u hu=>e2 u (List.mem_of_getElem? hu),e1⟩
 ·cases hg
theorem ac0 {C:Cx} {P:Program} {η:Env} (hC:C.Ok P η) {f:FuncId} {fi:FI} {y:List PT} {rt:RT} {ck:List FD->Bool} {F:List FD->List FD} (h:cT C P η f fi y rt ck F):
  ∀ svs pc r pc',(gFd y rt ck F svs pc).at_ η=some (r,pc')->pc.holds η->pc'.holds η /\ ∀ E args w,ZW E w->aD η E svs=some args->acI P η E f args.toArray w r:=by
 intro svs pc r pc' hg hpc;obtain ⟨_,rfl,h2⟩:=TM hC h svs pc r pc' hg;exact ⟨hpc,fun E args w hz hv=>⟨bU h.1 _ w,fun n _=>h2 E args w hz hv n⟩⟩
def Sh.scal:Sh->Bool
 | .list _=>false
 | _=>true
def PT.scal:PT->Bool
 | .one s=>s.scal
 | .agg l=>l.all Sh.scal
def RT.scal:RT->Bool
 | .one s=>s.scal
 | .agg l=>l.all Sh.scal
 | .tup l=>l.all PT.scal
theorem yM {s:Sh} (h:s.scal=true) (n k:Nat) (d:FD):l0 n (dD (.root 0 k) s d)=dD (.root 0 k) s d/\iA 0 (dD (.root 0 k) s d)=true:=by
 cases s with
 | list cs=>cases h
 | _=>exact ⟨rfl,rfl⟩
theorem t8 {fds:List FD} (n:Nat) : ∀ {l:List Sh} {k:Nat},l.all Sh.scal=true->(qF fds k l).map (l0 n)=qF fds k l/\(qF fds k l).all (iA 0)=true
 | [],_,_=>⟨rfl,rfl⟩
 | s::l,k,h=>by
  simp only [List.all_cons,Bool.and_eq_true] at h;obtain ⟨q1,q2⟩:=yM h.1 n k (bD fds k);obtain ⟨p1,p2⟩:=t8 (fds:=fds) n (k:=k+1) h.2;simp only [qF,List.map_cons,q1,p1,List.all_cons,q2,p2,Bool.and_self,and_self]
theorem t9 {fds:List FD} (n:Nat) : ∀ {l:List PT} {k:Nat},l.all PT.scal=true->((mK fds k l).map fun p=>(p.1,p.2.map (l0 n)))=mK fds k l/\((mK fds k l).all fun p=>p.2.all (iA 0))=true
 | [],_,_=>⟨rfl,rfl⟩
 | .one s::l,k,h=>by
  simp only [List.all_cons,Bool.and_eq_true] at h;obtain ⟨q1,q2⟩:=yM (s:=s) h.1 n k (bD fds k);obtain ⟨p1,p2⟩:=t9 (fds:=fds) n (k:=k+1) h.2;simp only [mK,List.map_cons,List.map_nil,q1,p1,List.all_cons,List.all_nil,q2,p2,Bool.and_self,and_self]
 | .agg cs::l,k,h=>by
  simp only [List.all_cons,Bool.and_eq_true] at h;obtain ⟨q1,q2⟩:=t8 (fds:=fds) n (l:=cs) (k:=k) h.1;obtain ⟨p1,p2⟩:=t9 (fds:=fds) n (k:=k+cs.length) h.2;simp only [mK,List.map_cons,q1,p1,List.all_cons,q2,p2,Bool.and_self,and_self]
theorem VK {fds:List FD} (n:Nat) {rt:RT} (h:rt.scal=true):kI n (nP rt fds)=nP rt fds/\below 0 (nP rt fds)=true:=by
 cases rt with
 | one s=>obtain ⟨q1,q2⟩:=yM h n 0 (bD fds 0);simp only [nP,kI,q1,below,q2,and_self]
 | agg l=>obtain ⟨q1,q2⟩:=t8 (fds:=fds) n (l:=l) (k:=0) h;simp only [nP,kI,q1,below,q2,and_self]
 | tup l=>obtain ⟨q1,q2⟩:=t9 (fds:=fds) n (l:=l) (k:=0) h;simp only [nP,kI,q1,below,q2,and_self]
theorem ac1 {C:Cx} {P:Program} {η:Env} (hC:C.Ok P η) {f:FuncId} {fi:FI} {y:List PT} {rt:RT} {ck:List FD->Bool} {F:List FD->List FD} (h:cT C P η f fi y rt ck F) (hrt:rt.scal=true):
  ∀ svs pc r pc',(gFd y rt ck F svs pc).at_ η=some (r,pc')->pc.holds η->pc'.holds η /\ ∀ E args w,ZW E w->aD η E svs=some args -> ∃ v,r.den η E=some v/\AG P f args.toArray w v:=by
 intro svs pc r pc' hg hpc;obtain ⟨⟨fds,rfl⟩,rfl,h2⟩:=TM hC h svs pc r pc' hg;refine ⟨hpc,fun E args w hz hv => ?_⟩
 obtain ⟨s1,s2⟩:=VK (fds:=fds) 0 hrt
 have key:=h2 E args w hz hv 0
 have den : ∀ v w' rr,(kI 0 (nP rt fds)).den η (Go.Ex.addE E w w' rr 0)=some v->(nP rt fds).den η E=some v:=fun v w' rr hd=>by
  rw [s1] at hd;rw [←hd];refine (Sv.den_agree (n:=0) (E:=E) (E':=Go.Ex.addE E w w' rr 0) ⟨(fun i hi=>by omega),(fun k hk=>by omega),(fun B o u hu => ?_),fun _ _ h=>h,rfl,fun _ _ _=>rfl⟩ s2).symm
  have hc:=hz B o u hu
  have hlt:B<w.heap.size:=by
   rcases Nat.lt_or_ge B w.heap.size with hlt | hge
   ·exact hlt
   ·exfalso;unfold World.cell? at hc;rw [Array.getElem?_eq_none (by simpa using hge)] at hc
    simp at hc
  simp only [Go.Ex.addE];rw [if_neg (by omega)];exact hu
 obtain ⟨e,w',v,rr,rfl,hB,_,hd⟩:=Calls.exists key
 have hv0:=den _ _ _ hd
 refine ⟨v,hv0,.inr ⟨bU h.1 _ w,key.mono ?_⟩⟩;rintro e w'' ⟨v',rr',rfl,hB',_,hd'⟩
 have:=den _ _ _ hd'
 rw [hv0] at this
 cases this
 exact ⟨rfl,hB'⟩
end
end Go.Ex
