/-
 Functions that write the caller's blocks: a run of their own with these blocks by other numbers; all other blocks of the caller stay.
-/
import Derived.Test.YtdpabnfcfakjeaaExGD
namespace Go.Ex
open Go Go.Proofs Go.RowKit
noncomputable section
theorem AM {C:Cx} {P:Program} {η:Env} (hC:C.Ok P η) {hp:T Blk} {nx lo base:Nat} {w0:World} {tm:T Sv} {a:Act} {fn:Func} {s:Sv} {m:Nat} {R:Ending->World->Prop} (hs:vA C hp tm fn.results.toList=some s) {d0:Nat->Option Obj}:
  ∀ (Ds:List Nat) (E:Emb) (w:World),aF η E hp nx lo base w->(∀ D∈Ds,E.d D=some (.deferred (some []))/\d0 D=none)->Ds.Nodup->(∀ D o,d0 D=some o->E.d D=some o)->jA η E tm a->Below base w0 w->
   (∀ v E' w',s.den η E'=some v->aF η E' hp nx lo base w'->Below base w0 w'->E'.dl=E.dl->E'.b=E.b->E'.r=E.r->E'.z=E.z->(∀ D o,d0 D=some o->E'.d D=some o)->R (.returned v) w')->
   LeavesInM (FW none) m P fn a.tmps R (Ds.map HC) .returning w
 | [],E,w,hH,_,_,hk,hf,hB,hR=>by
  obtain ⟨v,h1,h2⟩:=CI hC hH hf hs;exact ⟨v,h2,hR v E w h1 hH hB rfl rfl rfl rfl hk⟩
 | D::Ds,E,w,hH,hd,hnd,hk,hf,hB,hR=>by
  obtain ⟨hD,hD0⟩:=hd D (List.mem_cons_self ..);obtain ⟨hb,hdk,_⟩:=hH.dk D _ hD;obtain ⟨n1,n2⟩:=List.nodup_cons.1 hnd;refine ⟨by simp,.inl ⟨D,_,rfl,run_takeDeferred hdk,?_⟩⟩
  refine AM hC hs Ds (E.unmark D) _ (hH.unmark hD rfl _) (fun C hC=>⟨?_,(hd C (List.mem_cons_of_mem _ hC)).2⟩) n2 (fun C o hC => ?_) (hf.mono (E.le_unmark D)) (hB.trans ?_) (fun v E' w' h1 h2 h3 h4 h5 h6 h7 h8=>hR v E' w' h1 h2 h3 h4 h5 h6 h7 h8)
  ·show (bif Nat.beq C D then none else E.d C)=some (.deferred (some []))
   cases hc:Nat.beq C D with
   | true=>have:=Nat.eq_of_beq_eq_true hc;subst this;exact absurd hC n1
   | false=>exact (hd C (List.mem_cons_of_mem _ hC)).1
  ·show (bif Nat.beq C D then none else E.d C)=some o
   cases hc:Nat.beq C D with
   | true=>have:=Nat.eq_of_beq_eq_true hc;subst this;rw [hD0] at hC;cases hC
   | false=>exact hk C o hC
  ·exact (Below.refl base w).grown (grownBy_putObj' w D _) hH.bot (fun k e=>by cases e;exact hb)
theorem XR {C:Cx} {P:Program} {η:Env} (hC:C.Ok P η) {f:FuncId} {fi:FI} (hF:FI.Ok P f fi) {args:List Sv} {Φ:Xt->St->Prop} {n0 nx lo:Nat} {hp:T Blk}
  (hn0:n0<=nx) (hlo:lo<=nx) (h:dH P η fi.ntmps n0 none ⟨dF 0 args .nil,hp,nx,lo,[]⟩ [.code fi.body] Φ) (hlen:(Nat.ble args.length fi.ntmps&&Nat.ble fi.ntmps 60000)=true) {E0:Emb} {w w0:World} {base:Nat} {vs:List Value}
  (hH:aF η E0 hp nx lo base w) (hB:Below base w0 w) (hv:aD η E0 args=some vs) (hdl:E0.dl.l=[]) {R:Ending->World->Prop} {Ψ:St->Sv->Prop}
  (hx : ∀ x st',Φ x st'->(x = .normal∨x = .ret) /\ ∃ s,vA C st'.hp st'.tm fi.res=some s/\Ψ st' s)
  (hR : ∀ st' s v E' w',Ψ st' s->s.den η E'=some v->aF η E' st'.hp st'.nx lo base w'->Below base w0 w'->n0<=st'.nx->(∀ i,i<n0->E' i=E0 i)->(∀ k,k<n0 -> ∀ j,E'.r k j=E0.r k j)->(∀ B o v,E0.z B o=some v->E'.z B o=some v)->(∀ D o,E0.d D=some o->E'.d D=some o)->E'.dl.z0=E0.dl.z0->R (.returned v) w'):
  Calls P f vs.toArray w R:=by
 simp only [Bool.and_eq_true] at hlen
 have hb1:=Nat.le_of_ble_eq_true hlen.1
 have hb2:=Nat.le_of_ble_eq_true hlen.2
 obtain ⟨fn,f1,f2,f3,f4,_⟩:=hF.fn
 have hl:=iL hv
 refine (callsIn_wide (n:=10)).1 (callsIn_of_wp_marks (F:=Fence.wide) f1 f2 trivial ?_)
 have hfr:jA η E0 (dF 0 args .nil) { tmps:=vs.toArray++Array.replicate (fn.ntmps-vs.toArray.size) undef,defers:=[] }:=by
  refine mA hv (fun t sv ht=>by simp [T.get_nil] at ht) (by omega) (fun j hj => ?_)
  have:j<vs.length:=by omega
  simp [Array.getElem?_append,this]
 have hS:cP η E0 fi.ntmps base w0 ⟨dF 0 args .nil,hp,nx,lo,[]⟩ { tmps:=vs.toArray++Array.replicate (fn.ntmps-vs.toArray.size) undef,defers:=[] } w:=
  ⟨hfr,by simp [f3,hl];omega,hb2,hdl.symm,hH,hB,hlo,fun x hx=>by cases hx⟩
 have:=h 10 E0 base w0 _ w (bodyPostM Fence.wide 10 P fn R) (fun _=>Nat.le_refl _) hS hn0 ?_
 ·rw [dA] at this;refine wpIn_mono this fun e a w he => ?_
  cases e with
  | normal=>rw [eJ,vX] at he;exact he
  | _=>rw [b9 (by simp),nN] at he;exact he
 ·intro x st' E' a' w' hΦ hA hn hlo' hS';obtain ⟨hxx,s,hs,hΨ⟩:=hx x st' hΦ
  have hlo':st'.lo=lo:=hlo'
  obtain ⟨Ds,e1,e2,e3⟩:=hA.dl
  have hd:a'.defers=Ds.map HC:=by rw [hS'.df,e1,hdl,List.append_nil]
  have key:LeavesInM (FW none) 10 P fn a'.tmps R (Ds.map HC) .returning w':=by
   refine AM hC (by rw [f4];exact hs) (d0:=E0.d) Ds E' w' hS'.hr (fun D hD=>e3 D hD) e2 hA.d hS'.fr hS'.bl (fun v E'' w'' q1 q2 q3 q4 q5 q6 q7 q8=>hR st' s v E'' w'' hΨ q1 (by rw [←hlo'];exact q2) q3 hn (fun i hi=>by rw [q5];exact hA.b i hi) (fun k hk j=>by rw [q6];exact hA.r k hk j) (fun B o v hz=>by rw [q7];exact hA.z B o v hz) q8 (by rw [q4];exact hA.z0))
  rcases hxx with rfl | rfl
  ·show LeavesInM Fence.wide 10 P fn a'.tmps R a'.defers .returning w'
   rw [hd];exact key
  ·show LeavesInM Fence.wide 10 P fn a'.tmps R a'.defers .returning w'
   rw [hd];exact key
def oB {α:Type} (p:α->Bool):Option α->Bool
 | some a=>p a
 | none=>true
def VE {α:Type} (p:α->Bool) (t:T α):Bool:=T.rec true (fun _ v _ ihl ihr=>oB p v&&(ihl&&ihr)) t
theorem lO {α:Type} {p:α->Bool} : ∀ {t:T α},VE p t=true -> ∀ i a,t.get i=some a->p a=true
 | .nil,_,i,a,h=>by simp [T.get_nil] at h
 | .node l v r,ht,i,a,h=>by
  have ht:(oB p v&&(VE p l&&VE p r))=true:=ht
  simp only [Bool.and_eq_true] at ht;obtain ⟨h1,h2,h3⟩:=ht;rw [T.get_node] at h
  cases hb:Nat.beq i 0 with
  | true=>rw [hb] at h;simp only [cond_true] at h;subst h;exact h1
  | false=>
   rw [hb] at h;simp only [cond_false] at h
   cases hc:Nat.beq (i%2) 1 with
   | true=>rw [hc] at h;exact lO h2 _ a h
   | false=>rw [hc] at h;exact lO h3 _ a h
def TG:Blk->Bool
 | .cells _ _ _=>true
 | .map _ _ _=>true
 | .row _ _ _ _=>true
 | _=>false
theorem H4 {b:Blk} (h:TG b=true):b.own/\b.noM:=by
 cases b<;>first | exact ⟨trivial,trivial⟩ | cases h
def rnN (ρ:List (Nat × Nat)) (m δ i:Nat):Option Nat:=bif Nat.blt i m then d8.lookN ρ i else some (i+δ)
def rnR (m δ:Nat):Ref->Option Ref
 | .root k j=>some (.root (bif Nat.blt k m then k else k+δ) j)
 | .elem r c=>match rnR m δ r with
  | some r=>some (.elem r c)
  | none=>none
 | .sub r sz lo n=>match rnR m δ r with
  | some r=>some (.sub r sz lo n)
  | none=>none
def aaH (ρ:List (Nat × Nat)) (m δ:Nat):Sc->Option Sc
 | .bool b=>some (.bool b)
 | .int k x=>some (.int k x)
 | .str l=>some (.str l)
 | .ostr l=>some (.ostr l)
 | .ptr none=>some (.ptr none)
 | .ptr (some a)=>match rnN ρ m δ a.1 with
  | some j=>some (.ptr (some (j,a.2)))
  | none=>none
 | .slice none n (.known c)=>some (.slice none n (.known c))
 | .own b n=>match rnN ρ m δ b with
  | some j=>some (.own j n)
  | none=>none
 | .map none=>some (.map none)
 | .map (some b)=>match rnN ρ m δ b with
  | some j=>some (.map (some j))
  | none=>none
 | .fz r d=>match rnR m δ r with
  | some r=>some (.fz r d)
  | none=>none
 | _=>none
def Q3 (ρ:List (Nat × Nat)) (m δ:Nat):List Sc->Option (List Sc)
 | []=>some []
 | c::l=>match aaH ρ m δ c,Q3 ρ m δ l with
  | some c,some l=>some (c::l)
  | _,_=>none
def aaI (ρ:List (Nat × Nat)) (m δ:Nat):List (Bool × List Sc)->Option (List (Bool × List Sc))
 | []=>some []
 | c::l=>match Q3 ρ m δ c.2,aaI ρ m δ l with
  | some d,some l=>some ((c.1,d)::l)
  | _,_=>none
def XS (ρ:List (Nat × Nat)) (m δ:Nat):Sv->Option Sv
 | .one c=>(aaH ρ m δ c).map .one
 | .agg l=>(Q3 ρ m δ l).map .agg
 | .tup l=>(aaI ρ m δ l).map .tup
 | .undef=>none
def DV (ρ:List (Nat × Nat)) (m δ:Nat):Blk->Option Blk
 | .cells e sz l=>(Q3 ρ m δ l).map (.cells e sz)
 | .map ss ag f=>some (.map ss ag f)
 | .row e cs n f=>some (.row e cs n f)
 | _=>none
def XT (ρ:List (Nat × Nat)) (m δ:Nat):List (Nat × Blk)->Option (List (Nat × Blk))
 | []=>some []
 | p::l=>match rnN ρ m δ p.1,DV ρ m δ p.2,XT ρ m δ l with
  | some j,some b,some l=>some ((j,b)::l)
  | _,_,_=>none
section
variable {η:Env} {E1 E2:Emb} {m δ:Nat} {ρ:List (Nat × Nat)}
structure RnE (E1 E2:Emb) (ρ:List (Nat × Nat)) (m δ:Nat):Prop where
 b : ∀ i j x,rnN ρ m δ i=some j->E1 i=some x->E2 j=some x
 r : ∀ k j v,k<m->E1.r k j=some v->E2.r k j=some v
 r2 : ∀ k j v,m<=k->E1.r k j=some v->E2.r (k+δ) j=some v
 z:E2.z=E1.z
theorem J7 (h:RnE E1 E2 ρ m δ) : ∀ {r r':Ref} {v:Value},rnR m δ r=some r'->r.val E1=some v->r'.val E2=some v
 | .root k j,r',v,hr,hv=>by
  cases hr
  show E2.r _ _=some v
  cases hb:Nat.blt k m with
  | true=>exact h.r k j v (Nat.le_of_ble_eq_true hb) hv
  | false=>
   have : ¬ k<m:=fun hc=>by rw [show Nat.blt k m=true from Nat.ble_eq▸hc] at hb;cases hb
   exact h.r2 k j v (by omega) hv
 | .elem r c,r',v,hr,hv=>by
  simp only [rnR] at hr;split at hr
  ·rename_i q hq
   cases hr
   simp only [Ref.val] at hv ⊢;split at hv
   ·rename_i B o _ _ e;rw [J7 h hq e,h.z];exact hv
   ·cases hv
  ·cases hr
 | .sub r sz lo n,r',v,hr,hv=>by
  simp only [rnR] at hr;split at hr
  ·rename_i q hq
   cases hr
   simp only [Ref.val] at hv ⊢;split at hv
   ·rename_i e;rw [J7 h hq e];exact hv
   ·cases hv
  ·cases hr
theorem DW (h:RnE E1 E2 ρ m δ) {c c':Sc} {v:Value} (hc:aaH ρ m δ c=some c') (hv:c.den η E1=some v):c'.den η E2=some v:=by
 unfold aaH at hc;split at hc<;>first | (cases hc;done) | skip
 ·cases hc;exact hv
 ·cases hc;exact hv
 ·cases hc;exact hv
 ·cases hc;exact hv
 ·cases hc;exact hv
 ·rename_i a;split at hc
  ·rename_i j hj
   cases hc
   simp only [Sc.den,bV] at hv ⊢
   cases he:E1 a.1 with
   | none=>rw [he] at hv;cases hv
   | some B=>rw [he] at hv;rw [h.b _ _ _ hj he];exact hv
  ·cases hc
 ·cases hc;exact hv
 ·rename_i b n;split at hc
  ·rename_i j hj
   cases hc
   simp only [Sc.den] at hv ⊢
   cases he:E1 b with
   | none=>rw [he] at hv;cases hv
   | some B=>rw [he] at hv;rw [h.b _ _ _ hj he];exact hv
  ·cases hc
 ·cases hc;exact hv
 ·rename_i b;split at hc
  ·rename_i j hj
   cases hc
   simp only [Sc.den] at hv ⊢
   cases he:E1 b with
   | none=>rw [he] at hv;cases hv
   | some B=>rw [he] at hv;rw [h.b _ _ _ hj he];exact hv
  ·cases hc
 ·rename_i r d;split at hc
  ·rename_i q hq
   cases hc
   have hv:sX E1 r d=some v:=hv
   obtain ⟨h1,h2⟩:=aP.1 hv;exact aP.2 ⟨J7 h hq h1,by rw [h.z];exact h2⟩
  ·cases hc
theorem vV (h:RnE E1 E2 ρ m δ) : ∀ {l l':List Sc} {vs:List Value},Q3 ρ m δ l=some l'->aQ η E1 l=some vs->aQ η E2 l'=some vs
 | [],l',vs,hl,hv=>by cases hl;exact hv
 | c::l,l',vs,hl,hv=>by
  simp only [Q3] at hl;split at hl
  ·rename_i d m h1 h2
   cases hl
   obtain ⟨v,us,e1,e2,rfl⟩:=aR hv;simp only [aQ,DW h h1 e1,vV h h2 e2]
  ·cases hl
theorem NR (h:RnE E1 E2 ρ m δ) : ∀ {l l':List (Bool × List Sc)} {vs:List Value},aaI ρ m δ l=some l'->aN η E1 l=some vs->aN η E2 l'=some vs
 | [],l',vs,hl,hv=>by cases hl;exact hv
 | c::l,l',vs,hl,hv=>by
  simp only [aaI] at hl;split at hl
  ·rename_i d m h1 h2
   cases hl
   simp only [aN] at hv;split at hv
   ·rename_i v us e1 e2
    cases hv
    have e3:bL η E2 (c.1,d)=some v:=by
     obtain ⟨t,cs⟩:=c
     cases t with
     | true=>
      simp only [bL,Option.map_eq_some_iff] at e1 ⊢;obtain ⟨r,g1,g2⟩:=e1;exact ⟨r,vV h h1 g1,g2⟩
     | false=>
      match cs,h1,e1 with
      | [x],h1,e1=>
       simp only [Q3] at h1;split at h1
       ·rename_i y _ h3 h4
        cases h4;cases h1
        simp only [bL] at e1 ⊢;exact DW h h3 e1
       ·cases h1
      | [],_,e1=>simp [bL] at e1
      | _::_::_,_,e1=>simp [bL] at e1
    simp only [aN,e3,NR h h2 e2]
   ·cases hv
  ·cases hl
theorem XU (h:RnE E1 E2 ρ m δ) {s s':Sv} {v:Value} (hs:XS ρ m δ s=some s') (hv:s.den η E1=some v):s'.den η E2=some v:=by
 cases s with
 | one c=>
  simp only [XS,Option.map_eq_some_iff] at hs;obtain ⟨d,h1,rfl⟩:=hs;exact DW h h1 hv
 | agg l=>
  simp only [XS,Option.map_eq_some_iff] at hs;obtain ⟨d,h1,rfl⟩:=hs;simp only [Sv.den,Option.map_eq_some_iff] at hv ⊢;obtain ⟨r,g1,g2⟩:=hv;exact ⟨r,vV h h1 g1,g2⟩
 | tup l=>
  simp only [XS,Option.map_eq_some_iff] at hs;obtain ⟨d,h1,rfl⟩:=hs;simp only [Sv.den,Option.map_eq_some_iff] at hv ⊢;obtain ⟨r,g1,g2⟩:=hv;exact ⟨r,NR h h1 g1,g2⟩
 | undef=>cases hs
theorem VF (h:RnE E1 E2 ρ m δ) {b b':Blk} {K:Nat} {o:Option Obj} (hb:DV ρ m δ b=some b') (hr:b.Rel η E1 K o):b'.Rel η E2 K o:=by
 cases b with
 | cells e sz l=>
  simp only [DV,Option.map_eq_some_iff] at hb;obtain ⟨d,h1,rfl⟩:=hb;obtain ⟨c,vs,rest,k1,k2,k3,k4,k5⟩:=hr;exact ⟨c,vs,rest,k1,k2,k3,vV h h1 k4,k5⟩
 | map ss ag f=>cases hb;exact hr
 | row e cs n f=>
  cases hb
  obtain ⟨c,k1,k2,k3,k4,k5,k6⟩:=hr;refine ⟨c,k1,k2,k3,k4,k5,fun i hi j hj => ?_⟩
  obtain ⟨q1,u,q2,q3⟩:=k6 i hi j hj;exact ⟨q1,u,q2,by rw [h.z];exact q3⟩
 | arow l=>cases hb
 | mat q e s n x m f=>cases hb
theorem yF {b b':Blk} (h:DV ρ m δ b=some b'):(b'.noM/\b'.own)/\b.own:=by
 cases b with
 | cells e sz l=>
  simp only [DV,Option.map_eq_some_iff] at h;obtain ⟨d,h1,rfl⟩:=h;exact ⟨⟨trivial,trivial⟩,trivial⟩
 | map ss ag f=>cases h;exact ⟨⟨trivial,trivial⟩,trivial⟩
 | row e cs n f=>cases h;exact ⟨⟨trivial,trivial⟩,trivial⟩
 | arow l=>cases h
 | mat q e s n x m f=>cases h
theorem NS : ∀ {l l':List (Nat × Blk)},XT ρ m δ l=some l'->(∀ p∈l',∃ q∈l,rnN ρ m δ q.1=some p.1/\DV ρ m δ q.2=some p.2) /\ ∀ q∈l,∃ p∈l',rnN ρ m δ q.1=some p.1
 | [],l',h=>by cases h;exact ⟨(fun p hp=>by cases hp),(fun p hp=>by cases hp)⟩
 | q::l,l',h=>by
  simp only [XT] at h;split at h
  ·rename_i j b k h1 h2 h3
   cases h
   obtain ⟨g1,g2⟩:=NS h3;refine ⟨fun p hp => ?_,fun r hr => ?_⟩
   ·cases hp with
    | head=>exact ⟨q,List.mem_cons_self ..,h1,h2⟩
    | tail _ hp=>
     obtain ⟨r,k1,k2⟩:=g1 p hp;exact ⟨r,List.mem_cons_of_mem _ k1,k2⟩
   ·cases hr with
    | head=>exact ⟨(j,b),List.mem_cons_self ..,h1⟩
    | tail _ hr=>
     obtain ⟨p,k1,k2⟩:=g2 r hr;exact ⟨p,List.mem_cons_of_mem _ k1,k2⟩
  ·cases h
end
theorem H5 {hp:T Blk} : ∀ {l:List (Nat × Blk)} {i:Nat} {b:Blk},(∀ p∈l,p.1<65535)->(fP hp l).get i=some b->(∃ p∈l,p.1=i/\p.2=b)∨(hp.get i=some b /\ ∀ p∈l,p.1≠i)
 | [],i,b,_,h => .inr ⟨h,fun p hp=>by cases hp⟩
 | q::l,i,b,hl,h=>by
  have h:((fP hp l).set q.1 (some q.2)).get i=some b:=h
  by_cases e:q.1=i
  ·subst e;rw [T.get_set_same _ _ _ (hl q (List.mem_cons_self ..))] at h
   cases h
   exact .inl ⟨q,List.mem_cons_self ..,rfl,rfl⟩
  ·rw [T.get_set_ne _ _ _ _ e] at h
   rcases H5 (fun p hp=>hl p (List.mem_cons_of_mem _ hp)) h with ⟨p,h1,h2⟩ | ⟨h1,h2⟩
   ·exact .inl ⟨p,List.mem_cons_of_mem _ h1,h2⟩
   ·refine .inr ⟨h1,fun p hp => ?_⟩
    cases hp with
    | head=>exact e
    | tail _ hp=>exact h2 p hp
open Classical in
def qE (E:Emb)(hp:T Blk) (ρ:List (Nat × Nat)) (base:Nat) (w:World):Nat->Option Obj:=fun D=>
 match E.d D with
 | some o=>some o
 | none=>if base<=D /\ ∃ j b K,hp.get j=some b/\E j=some (D,K) /\ ∀ i,(i,j) ∉ ρ then w.heap[D]? else none
def acW (E:Emb)(hp:T Blk) (ρ:List (Nat × Nat)) (m base:Nat) (w:World):Emb:=
 ⟨(subE (fun i=>i) ρ m E).b,(subE (fun i=>i) ρ m E).r,E.z,qE E hp ρ base w,⟨[],E.dl.z0⟩,fun _ _=>none⟩
def NT:Sc->Bool
 | .mown _ _ _ _=>false
 | .mptr _ _ _ _=>false
 | _=>true
def abm:Sv->Bool
 | .one c=>NT c
 | .agg l=>l.all NT
 | _=>false
def aaJ:Blk->Bool
 | .cells _ _ l=>l.all NT
 | .map _ _ _=>true
 | .row _ _ _ _=>true
 | _=>false
section
variable {η:Env} {S:Emb} {d:Nat->Option Obj} {dl:Fix}
theorem BK : ∀ {r:Ref},r.val ⟨S.b,S.r,S.z,d,dl,fun _ _=>none⟩=r.val S
 | .root k j=>rfl
 | .elem r c=>by simp only [Ref.val];rw [BK]
 | .sub r sz lo n=>by simp only [Ref.val];rw [BK]
theorem H6 {c:Sc} (h:NT c=true) {v:Value} (hv:c.den η S=some v):c.den η ⟨S.b,S.r,S.z,d,dl,fun _ _=>none⟩=some v:=by
 cases c with
 | mown=>cases h
 | mptr=>cases h
 | fz r d'=>
  obtain ⟨h1,h2⟩:=aP.1 (show sX S r d'=some v from hv)
  exact aP.2 ⟨by rw [BK];exact h1,h2⟩
 | fptr r cs n f i j=>
  obtain ⟨B,o,c,h1,h2⟩:=dN.1 (show rZ S r cs n f i j=some v from hv)
  exact dN.2 ⟨B,o,c,by rw [BK];exact h1,h2⟩
 | fn f caps=>
  have : ∀ cs:List (Nat × Nat),b7 ⟨S.b,S.r,S.z,d,dl,fun _ _=>none⟩ cs=b7 S cs:=by
   intro cs
   induction cs with
   | nil=>rfl
   | cons a cs ih=>simp only [b7,ih];rfl
  simp only [Sc.den,this] at hv ⊢;exact hv
 | ptr a=>cases a<;>exact hv
 | slice a n l=>cases a<;>cases l<;>exact hv
 | map b=>cases b<;>exact hv
 | _=>exact hv
theorem DX : ∀ {l:List Sc} {vs:List Value},l.all NT=true->aQ η S l=some vs->aQ η ⟨S.b,S.r,S.z,d,dl,fun _ _=>none⟩ l=some vs
 | [],vs,_,h=>h
 | c::l,vs,hc,h=>by
  simp only [List.all_cons,Bool.and_eq_true] at hc;obtain ⟨v,us,e1,e2,rfl⟩:=aR h;simp only [aQ,H6 hc.1 e1,DX hc.2 e2]
theorem AN : ∀ {l:List Sv} {vs:List Value},l.all abm=true->aD η S l=some vs->aD η ⟨S.b,S.r,S.z,d,dl,fun _ _=>none⟩ l=some vs
 | [],vs,_,h=>h
 | c::l,vs,hc,h=>by
  simp only [List.all_cons,Bool.and_eq_true] at hc;obtain ⟨v,us,e1,e2,rfl⟩:=aI h
  have e3:c.den η ⟨S.b,S.r,S.z,d,dl,fun _ _=>none⟩=some v:=by
   cases c with
   | one c=>exact H6 hc.1 e1
   | agg m=>
    obtain ⟨ws,g1,rfl⟩:=gV e1;simp only [Sv.den,DX (d:=d) (dl:=dl) hc.1 g1,Option.map_some]
   | tup _=>cases hc.1
   | undef=>cases hc.1
  simp only [aD,e3,AN hc.2 e2]
theorem aaK {b:Blk} (h:aaJ b=true) {K:Nat} {o:Option Obj} (hr:b.Rel η S K o):b.Rel η ⟨S.b,S.r,S.z,d,dl,fun _ _=>none⟩ K o:=by
 cases b with
 | cells e sz l=>obtain ⟨c,vs,rest,h1,h2,h3,h4,h5⟩:=hr;exact ⟨c,vs,rest,h1,h2,h3,DX h h4,h5⟩
 | map ss ag f=>exact hr
 | row e cs n f=>exact hr
 | arow l=>cases h
 | mat q e s n x m f=>cases h
end
def wrE (E E1:Emb)(m nx:Nat):Emb:=⟨fun i=>if nx<=i then E1 (i-nx+m) else E i,fun k j=>if nx<=k then E1.r (k-nx+m) j else E.r k j,E1.z,E.d,E.dl,E.m⟩
theorem aaL (E E1:Emb) {m nx i:Nat} (h1:m<=nx) (hi:m<=i):wrE E E1 m nx (i+(nx-m))=E1 i:=by
 show (if nx<=i+(nx-m) then E1 (i+(nx-m)-nx+m) else _)=_
 rw [if_pos (by omega),show i+(nx-m)-nx+m=i by omega]
theorem gY (E E1:Emb) {m nx i:Nat} (hi:i<nx):wrE E E1 m nx i=E i:=if_neg (by omega)
variable {η:Env}
theorem aaM {E:Emb} {hp:T Blk} {nx base:Nat} {w:World} (h:aF η E hp nx 1 base w) {ρ:List (Nat × Nat)} {m:Nat} {bl:List (Nat × Blk)} (hρ:mI ρ 0 m 1) (hex : ∀ p∈ρ,∃ b,hp.get p.2=some b) (q2 : ∀ p∈bl,p.1<65535) (a6:m<=65000) (hh:d8 (fun i=>i) ρ m hp bl) (hall:VE TG hp=true) (G : ∀ p∈bl,aaJ p.2=true):
  aF η (acW E hp ρ m base w) (T.ofList bl) m 1 base w:=by
 have hget : ∀ i b1,(T.ofList bl).get i=some b1 -> ∃ j b,(i,j)∈ρ/\hp.get j=some b/\dY (fun i=>i) ρ m b1 b:=fun i b1 hi=>uA hh i b1 (T.get_ofList q2 hi)
 have hS:=h.subE hρ q2 a6 hh (fun k h _=>h)
 have hnomat : ∀ b q e s n x m' f,(T.ofList bl).get b≠some (.mat q e s n x m' f):=fun b q e s n x m' f hb=>by
  obtain ⟨j,d,_,r2,r3⟩:=hget b _ hb;obtain ⟨g,e,_⟩:=fS r3;subst e
  have:=lO hall j _ r2
  cases this
 refine ⟨hS.dom,fun i b hi => ?_,hS.inj,hS.hi,hS.top,hS.bot,hS.free,hS.lim,hS.zw,hS.zd,hS.rfree,?_,⟨hS.rn.1,h.rn.2⟩,xZ.empty (fun _ _=>rfl) hnomat⟩
 ·obtain ⟨B,K,g1,g2⟩:=hS.cell i b hi;exact ⟨B,K,g1,aaK (S:=subE (fun i=>i) ρ m E) (G _ (T.get_ofList q2 hi)) g2⟩
 ·intro D o hD
  have hD:qE E hp ρ base w D=some o:=hD
  unfold qE at hD;split at hD
  ·rename_i o' ho'
   cases hD
   obtain ⟨k1,k2,k3,k4⟩:=h.dk D o ho';refine ⟨k1,k2,k3.imp id fun ⟨a,_⟩=>⟨a,fun q i L hx=>by cases hx⟩,fun i K hE => ?_⟩
   obtain ⟨j,_,e2⟩:=jE (rm:=fun i=>i) (ρ:=ρ) (nx:=m) (E:=E) (show (subE (fun i=>i) ρ m E) i=_ from hE)
   exact k4 j K e2
  ·split at hD
   ·rename_i hx;obtain ⟨hb,j,b,K,g1,g2,g3⟩:=hx
    have hst:=H4 (lO hall j b g1)
    refine ⟨hb,hD,.inr ⟨fun o=>h.zd j b D K g1 hst.1 g2 o,fun q i L hx=>by cases hx⟩,fun i K' hE => ?_⟩
    obtain ⟨j',e1,e2⟩:=jE (rm:=fun i=>i) (ρ:=ρ) (nx:=m) (E:=E) (show (subE (fun i=>i) ρ m E) i=_ from hE)
    obtain ⟨b',hb'⟩:=hex _ e1;exact h.inj j' j b' b D D K' K (fun e=>g3 i (e▸e1)) hb' g1 e2 g2 rfl
   ·cases hD
theorem acX {E E1:Emb} {hp:T Blk} {nx base:Nat} {w w':World} (h:aF η E hp nx 1 base w) (hB:Below base w w') {ρ:List (Nat × Nat)} {m nF:Nat} {bl bl':List (Nat × Blk)} (hF:aF η E1 (T.ofList bl) nF 1 base w') (hρ:mI ρ 0 m 1) (hex : ∀ p∈ρ,∃ b,hp.get p.2=some b) (hall:VE TG hp=true) (hp0:hp.get 0=none)
  (hb : ∀ i j,(i,j)∈ρ->E1 i=E j) (hr : ∀ k,k<m -> ∀ j,E1.r k j=E.r k j) (hz : ∀ B o v,E.z B o=some v->E1.z B o=some v) (hd : ∀ D o,qE E hp ρ base w D=some o->E1.d D=some o) (hz0:E1.dl.z0=E.dl.z0)
  (hm1:1<=m) (hnx:m<=nx) (hnF:m<=nF) (hlim:nx+nF-m<=65000) (hsh:XT ρ m (nx-m) bl=some bl') (hlt : ∀ p∈bl,p.1<65535) (hpos : ∀ p∈bl,1<=p.1) (hnd : ∀ p∈bl,(T.ofList bl).get p.1=some p.2) (hcov : ∀ p∈ρ,∃ q∈bl,q.1=p.1):
  aF η (wrE E E1 m nx) (fP hp bl') (nx+nF-m) 1 base w'/\aJ E (wrE E E1 m nx) nx/\RnE E1 (wrE E E1 m nx) ρ m (nx-m):=by
 have hRn:RnE E1 (wrE E E1 m nx) ρ m (nx-m):=by
  refine ⟨fun i j x hi hx => ?_,fun k j v hk hv => ?_,fun k j v hk hv => ?_,rfl⟩
  ·unfold rnN at hi
   cases G:Nat.blt i m with
   | true=>
    rw [G] at hi
    have hm:=iH hi
    obtain ⟨b,hb'⟩:=hex _ hm;rw [gY _ _ (h.dom _ _ hb'),←hb i j hm];exact hx
   | false=>
    rw [G] at hi
    cases hi
    have : ¬ i<m:=fun hc=>by rw [show Nat.blt i m=true from Nat.ble_eq▸hc] at G;cases G
    rw [aaL _ _ hnx (by omega)]
    exact hx
  ·show (if nx<=k then _ else E.r k j)=some v
   rw [if_neg (by omega),←hr k hk]
   exact hv
  ·show (if nx<=k+(nx-m) then E1.r (k+(nx-m)-nx+m) j else _)=some v
   rw [if_pos (by omega),show k+(nx-m)-nx+m=k by omega]
   exact hv
 have hle:E.le (wrE E E1 m nx):=⟨(fun i x hx=>by
  rcases Nat.lt_or_ge i nx with hi | hi
  ·rw [gY _ _ hi];exact hx
  ·rw [h.free i hi] at hx;cases hx),(fun k j v hv=>by
  rcases Nat.lt_or_ge k nx with hi | hi
  ·show (if nx<=k then _ else E.r k j)=some v
   rw [if_neg (by omega)];exact hv
  ·rw [h.rfree k hi] at hv;cases hv),hz,fun _ _ _ h=>h⟩
 obtain ⟨hm1',hm2'⟩:=NS hsh
 have hsm : ∀ p∈bl',p.1<65535:=fun p hp'=>by
  obtain ⟨q,g1,g2,_⟩:=hm1' p hp'
  have hq:=hF.dom q.1 q.2 (hnd q g1)
  unfold rnN at g2
  cases G:Nat.blt q.1 m with
  | true=>
   rw [G] at g2;obtain ⟨b,hb'⟩:=hex _ (iH g2)
   have h1:=h.dom _ _ hb'
   have h2:=h.lim
   have h1:p.1<nx:=h1
   omega
  | false=>
   rw [G] at g2
   have g2:q.1+(nx-m)=p.1:=Option.some.inj g2
   have : ¬ q.1<m:=fun hc=>by rw [show Nat.blt q.1 m=true from Nat.ble_eq▸hc] at G;cases G
   omega
 have hget : ∀ i b,(fP hp bl').get i=some b->(∃ q∈bl,rnN ρ m (nx-m) q.1=some i/\DV ρ m (nx-m) q.2=some b)∨(hp.get i=some b /\ ∀ k,(k,i) ∉ ρ):=fun i b hi=>by
  rcases H5 hsm hi with ⟨p,hp1,e1,e2⟩ | ⟨h1,h2⟩
  ·obtain ⟨q,g1,g2,g3⟩:=hm1' p hp1;exact .inl ⟨q,g1,by rw [g2,e1],by rw [g3,e2]⟩
  ·refine .inr ⟨h1,fun k hk => ?_⟩
   obtain ⟨q,q1,q2⟩:=hcov _ hk;obtain ⟨p,p1,p2⟩:=hm2' q q1
   have q2:q.1=k:=q2
   unfold rnN at p2
   have hkm:Nat.blt q.1 m=true:=by rw [q2];exact Nat.ble_eq▸(hρ.lt _ _ hk)
   rw [hkm] at p2
   have:=hρ.fn _ _ _ (iH p2) (q2▸hk)
   exact h2 p p1 this
 have hnewE : ∀ q i x,q∈bl->rnN ρ m (nx-m) q.1=some i->wrE E E1 m nx i=some x->E1 q.1=some x:=fun q i x hq hi hx=>by
  obtain ⟨B,K,g1,_⟩:=hF.cell q.1 q.2 (hnd q hq)
  have:=hRn.b _ _ _ hi g1
  rw [this] at hx;rw [g1];exact hx
 have hkeep : ∀ j b,hp.get j=some b->(∀ k,(k,j) ∉ ρ) -> ∃ B K,E j=some (B,K)/\w'.heap[B]? = w.heap[B]? /\ ∀ i K',E1 i=some (B,K')->B<base:=fun j b hj hn=>by
  obtain ⟨B,K,g1,_⟩:=h.cell j b hj;refine ⟨B,K,g1,?_⟩
  rcases Nat.lt_or_ge B base with hlt' | hge
  ·exact ⟨hB.block B hlt',fun _ _ _=>hlt'⟩
  ·have hlt2:=h.top j B K g1
   have hk : ∃ o,qE E hp ρ base w B=some o/\w.heap[B]? = some o:=by
    unfold qE;split
    ·rename_i o ho;exact ⟨o,rfl,(h.dk B o ho).2.1⟩
    ·rw [if_pos ⟨hge,j,b,K,hj,g1,hn⟩];exact ⟨w.heap[B],by simp [hlt2],by simp [hlt2]⟩
   obtain ⟨o,k1,k2⟩:=hk;obtain ⟨_,k3,_,k4⟩:=hF.dk B o (hd B o k1);exact ⟨k3.trans k2.symm,fun i K' hi=>absurd hi (k4 i K')⟩
 have hnd2 : ∀ D o,E.d D=some o->E1.d D=some o:=fun D o hD=>hd D o (by unfold qE;rw [hD])
 refine ⟨⟨fun i b hi => ?_,fun i b hi => ?_,fun i j b c B C K L hij hi hj hEi hEj => ?_,fun i B K hl hEi => ?_,fun i B K hEi => ?_,hF.bot,fun i hi => ?_,hlim,hF.zw,fun i b B K hi ho hEi o => ?_,fun k hk j => ?_,fun D o hD => ?_,⟨fun k j v hk hv => ?_,fun B o v hB hv => ?_⟩,?_⟩,⟨fun i hi=>gY _ _ hi,fun k hk j=>by show (if nx<=k then _ else E.r k j)=E.r k j;rw [if_neg (by omega)],hz,fun _ _ h=>h,rfl,fun _ _ _=>rfl⟩,hRn⟩
 ·rcases hget i b hi with ⟨q,g1,g2,_⟩ | ⟨hi,_⟩
  ·have hq:=hF.dom q.1 q.2 (hnd q g1)
   unfold rnN at g2
   cases G:Nat.blt q.1 m with
   | true=>
    rw [G] at g2;obtain ⟨b',hb'⟩:=hex _ (iH g2)
    have h1:=h.dom _ _ hb'
    have h1:i<nx:=h1
    omega
   | false=>
    rw [G] at g2
    have g2:q.1+(nx-m)=i:=Option.some.inj g2
    have : ¬ q.1<m:=fun hc=>by rw [show Nat.blt q.1 m=true from Nat.ble_eq▸hc] at G;cases G
    omega
  ·have:=h.dom i b hi
   omega
 ·rcases hget i b hi with ⟨q,g1,g2,g3⟩ | ⟨hi,hn⟩
  ·obtain ⟨B,K,k1,k2⟩:=hF.cell q.1 q.2 (hnd q g1);exact ⟨B,K,hRn.b _ _ _ g2 k1,VF hRn g3 k2⟩
  ·obtain ⟨B,K,k1,k2⟩:=h.cell i b hi;obtain ⟨B',K',k3,k4,_⟩:=hkeep i b hi hn;rw [k1] at k3;cases k3;exact ⟨B,K,by rw [gY _ _ (h.dom i b hi)];exact k1,by rw [k4];exact k2.mono hle⟩
 ·rcases hget i b hi with ⟨q,g1,g2,g3⟩ | ⟨hi,hn⟩<;>rcases hget j c hj with ⟨r,g4,g5,g6⟩ | ⟨hj,hn'⟩
  ·have e1:=hnewE q i _ g1 g2 hEi
   have e2:=hnewE r j _ g4 g5 hEj
   exact hF.inj q.1 r.1 q.2 r.2 B C K L (fun e=>hij (by rw [e,g5] at g2;exact (Option.some.inj g2).symm)) (hnd q g1) (hnd r g4) e1 e2
  ·have e1:=hnewE q i _ g1 g2 hEi
   obtain ⟨B',K',k1,k2,k3⟩:=hkeep j c hj hn';rw [gY _ _ (h.dom j c hj)] at hEj;rw [hEj] at k1;cases k1;rintro rfl
   have:=k3 _ _ e1
   have hq1:1<=q.1:=hpos q g1
   have:=hF.hi q.1 B K hq1 e1
   omega
  ·have e2:=hnewE r j _ g4 g5 hEj
   obtain ⟨B',K',k1,k2,k3⟩:=hkeep i b hi hn;rw [gY _ _ (h.dom i b hi)] at hEi;rw [hEi] at k1;cases k1;rintro rfl
   have:=k3 _ _ e2
   have hq1:1<=r.1:=hpos r g4
   have:=hF.hi r.1 B L hq1 e2
   omega
  ·rw [gY _ _ (h.dom i b hi)] at hEi;rw [gY _ _ (h.dom j c hj)] at hEj;exact h.inj i j b c B C K L hij hi hj hEi hEj
 ·rcases Nat.lt_or_ge i nx with hi | hi
  ·rw [gY _ _ hi] at hEi;exact h.hi i B K hl hEi
  ·have hEi:(if nx<=i then E1 (i-nx+m) else E i)=some (B,K):=hEi
   rw [if_pos hi] at hEi;exact hF.hi _ B K (by omega) hEi
 ·rcases Nat.lt_or_ge i nx with hi | hi
  ·rw [gY _ _ hi] at hEi;exact Nat.lt_of_lt_of_le (h.top i B K hEi) hB.size
  ·have hEi:(if nx<=i then E1 (i-nx+m) else E i)=some (B,K):=hEi
   rw [if_pos hi] at hEi;exact hF.top _ B K hEi
 ·show (if nx<=i then E1 (i-nx+m) else E i)=none
  rw [if_pos (by omega)]
  exact hF.free _ (by omega)
 ·rcases hget i b hi with ⟨q,g1,g2,g3⟩ | ⟨hi,hn⟩
  ·have e1:=hnewE q i _ g1 g2 hEi
   exact hF.zd q.1 q.2 B K (hnd q g1) (yF g3).2 e1 o
  ·have hdm:=h.dom i b hi
   rw [gY _ _ hdm] at hEi
   have hst:=H4 (lO hall i b hi)
   have hE0:=h.zd i b B K hi hst.1 hEi o
   show E1.z B o=none
   cases hz1:E1.z B o with
   | none=>rfl
   | some v=>
    exfalso
    rcases Nat.lt_or_ge B base with hlt' | hge
    ·have hi1:1<=i:=by
      rcases Nat.eq_zero_or_pos i with e | e
      ·subst e;rw [hp0] at hi;cases hi
      ·exact e
     have:=h.hi i B K hi1 hEi
     omega
    ·have hk : ∃ o,qE E hp ρ base w B=some o:=by
      unfold qE;split
      ·exact ⟨_,rfl⟩
      ·rw [if_pos ⟨hge,i,b,K,hi,hEi,hn⟩]
       have:=h.top i B K hEi
       exact ⟨w.heap[B],by simp [this]⟩
     obtain ⟨ob,hk⟩:=hk;obtain ⟨_,k2,k3,_⟩:=hF.dk B ob (hd B ob hk)
     rcases k3 with k3 | ⟨k3,_⟩
     ·obtain ⟨x,hx,hx'⟩:=cells_of_cell (hF.zw B o v hz1)
      have hx:w'.heap[B]? = some x:=hx
      rw [k2] at hx;cases hx;rw [k3] at hx';cases hx'
     ·rw [k3 o] at hz1;cases hz1
 ·show (if nx<=k then E1.r (k-nx+m) j else E.r k j)=none
  rw [if_pos (by omega)]
  exact hF.rfree _ (by omega) j
 ·obtain ⟨k1,k2,k3,k4⟩:=hF.dk D o (hnd2 D o hD);obtain ⟨l1,l2,l3,l4⟩:=h.dk D o hD;refine ⟨k1,k2,?_,fun i K hE => ?_⟩
  ·rcases k3 with k3 | ⟨k3,_⟩
   ·exact .inl k3
   ·rcases l3 with l3 | ⟨_,l3⟩
    ·exact .inl l3
    ·exact .inr ⟨k3,l3⟩
  ·rcases Nat.lt_or_ge i nx with hi | hi
   ·rw [gY _ _ hi] at hE;exact l4 i K hE
   ·have hE:(if nx<=i then E1 (i-nx+m) else E i)=some (D,K):=hE
    rw [if_pos hi] at hE;exact k4 _ K hE
 ·have hv:(if nx<=k then E1.r (k-nx+m) j else E.r k j)=some v:=hv
  split at hv
  ·exact hF.rn.1 _ j v (by omega) hv
  ·exact h.rn.1 k j v hk hv
 ·show E.dl.z0 B o=some v
  rw [←hz0];exact hF.rn.2 B o v hB hv
 ·have hM : ∀ B,¬ MIn (wrE E E1 m nx) (fP hp bl') B:=by
   rintro B ⟨b,q,e,s,n,x,m',f,i,L,h1,_⟩
   rcases hget b _ h1 with ⟨q,_,_,g3⟩ | ⟨h1,_⟩
   ·exact (yF g3).1.1.elim
   ·have:=lO hall b _ h1
    cases this
  have hN : ∀ b q e s n x m' f,(fP hp bl').get b≠some (.mat q e s n x m' f):=by
   intro b q e s n x m' f h1
   rcases hget b _ h1 with ⟨q,_,_,g3⟩ | ⟨h1,_⟩
   ·exact (yF g3).1.1.elim
   ·have:=lO hall b _ h1
    cases this
  exact ⟨fun q i x hx=>by have:=h.mt.dom q i x hx;omega,fun q i B L hx=>Nat.lt_of_lt_of_le (h.mt.top q i B L hx) hB.size,fun q i B L hq hx=>h.mt.hi q i B L hq hx,fun b q e s n x m' f hb=>(hN _ _ _ _ _ _ _ _ hb).elim,fun B hB=>(hM B hB).elim,fun B hB=>(hM B hB).elim,fun b q e s n x m' f b' q' e' s' n' x' m'' f' i i' B L L' hb=>(hN _ _ _ _ _ _ _ _ hb).elim,fun b q e s n x m' f b' e' s' n' x' m'' f' hb=>(hN _ _ _ _ _ _ _ _ hb).elim,fun b q e s n x m' f hb=>(hN _ _ _ _ _ _ _ _ hb).elim⟩
structure NU where
 ρ:List (Nat × Nat)
 sv:List Sv
 bl:List (Nat × Blk)
 m:Nat
 l:List (Bool × dV)
 d:dV
 ck:Bool
def wrB (i:NU)(hp:T Blk)(nx lo:Nat):Bool:=
 N2 i.ρ 0 i.m 1&&(Nat.beq lo 1&&(Nat.ble 1 i.m&&(Nat.ble i.m nx&&(Nat.ble i.m 65000&&(AP 65535 i.bl&&(i.bl.all (fun p=>aaJ p.2)&&(i.sv.all abm&&(VE TG hp&&((match hp.get 0 with
  | none=>true
  | some _=>false)&&i.ρ.all fun p=>(match hp.get p.2 with
  | some _=>true
  | none=>false))))))))))
def NV (ρ:List (Nat × Nat)) (m:Nat) (hp:T Blk) (nx:Nat) (pc:PC) (p:dV):aB (Sv × ((T Blk × Nat) × PC)):=
 match XS ρ m (nx-m) p.s,XT ρ m (nx-m) p.bl with
 | some s,some bl=>bif Nat.ble m p.nx&&(Nat.ble (nx+p.nx-m) 65000&&(DN 1 p.bl&&ρ.all fun q=>inL q.1 p.bl)) then .leaf (s,((fP hp bl,nx+p.nx-m),pc)) else .fail
 | _,_ => .fail
def wrT (ρ:List (Nat × Nat)) (m:Nat) (hp:T Blk) (nx:Nat) (pc:PC):List (Bool × dV)->dV->aB (Sv × ((T Blk × Nat) × PC))
 | [],d=>NV ρ m hp nx pc d
 | p::l,d => .fork (.tm p.1) (NV ρ m hp nx pc p.2) (wrT ρ m hp nx pc l d)
def wrG (rd:T Blk->List Sv->Option NU):Esf:=fun hp nx lo svs pc=>match rd hp svs with
 | some i=>chk i.ck (bif wrB i hp nx lo then wrT i.ρ i.m hp nx pc i.l i.d else .fail)
 | none => .fail
def aeq (C:Cx)(P:Program)(η:Env)(f:FuncId)(fi:FI)(rd:T Blk->List Sv->Option NU):Prop:=
 FI.Ok P f fi /\ ∀ hp svs i,rd hp svs=some i->qA i.ρ i.m i.sv svs/\d8 (fun i=>i) i.ρ i.m hp i.bl/\(i.ck=true->((Nat.ble i.sv.length fi.ntmps&&Nat.ble fi.ntmps 60000)=true/\okL C fi i.l i.d/\
  dH P η fi.ntmps i.m none ⟨dF 0 i.sv .nil,T.ofList i.bl,i.m,1,[]⟩ [.code fi.body] (XH i.m i.l i.d)))
theorem NW {ρ:List (Nat × Nat)} {m:Nat} {C:Cx} {fi:FI} {hp:T Blk} {nx:Nat} {pc:PC} {r:Sv × ((T Blk × Nat) × PC)} {η:Env} : ∀ {l:List (Bool × dV)} {d:dV},(wrT ρ m hp nx pc l d).at_ η=some r->okL C fi l d -> ∃ p:dV,p.ok C fi/\(NV ρ m hp nx pc p).at_ η=some r /\ ∀ st',aaw m st' l d->p.alt.fits m st' ()
 | [],d,h,hk=>⟨d,hk,h,fun _ h=>h⟩
 | (c,p)::l,d,h,hk=>by
  have h:(if (fK.tm c).den η=true then (NV ρ m hp nx pc p).at_ η else (wrT ρ m hp nx pc l d).at_ η)=some r:=h
  cases c with
  | true=>exact ⟨p,hk.1,by rwa [if_pos (show fK.den η (fK.tm true)=true from rfl)] at h,fun st' he=>he.1 rfl⟩
  | false=>
   rw [if_neg (by simp [fK.den])] at h
   obtain ⟨q,q1,q2,q3⟩:=NW h hk.2;exact ⟨q,q1,q2,fun st' he=>q3 st' (he.2 rfl)⟩
theorem TH {n:Nat} : ∀ {l:List (Nat × Blk)},inL n l=true -> ∃ q∈l,q.1=n
 | q::l,h=>by
  simp only [inL,Bool.or_eq_true] at h
  rcases h with h | h
  ·exact ⟨q,List.mem_cons_self ..,(Nat.eq_of_beq_eq_true h).symm⟩
  ·obtain ⟨r,h1,h2⟩:=TH h;exact ⟨r,List.mem_cons_of_mem _ h1,h2⟩
theorem acY {sm:T Smf} {gs:G2} (hs:Tab fC sm) (hgs:cZ gs) {f:FuncId} {fi:FI} {rd:T Blk->List Sv->Option NU} (h:aeq (mkR sm gs) Try.prog η0 f fi rd):J4 f (wrG rd):=by
 intro hp nx lo svs pc r hg hpc hlo E base w0 w args hH hB hv;refine ⟨bU h.1 _ w,?_⟩;unfold wrG at hg;split at hg
 ·rename_i i hi;obtain ⟨c1,hg'⟩:=eZ hg;clear hg
  have hg:=hg'
  clear hg'
  cases hck:wrB i hp nx lo with
  | false=>rw [hck] at hg;cases hg
  | true=>
  rw [hck] at hg;simp only [wrB,Bool.and_eq_true] at hck;obtain ⟨c2,c3,c4,c5,c6,c7,c8,c9,c10,c11,c12⟩:=hck
  have c3:=Nat.eq_of_beq_eq_true c3
  subst c3
  have c4:=Nat.le_of_ble_eq_true c4
  have c5:=Nat.le_of_ble_eq_true c5
  have c6:=Nat.le_of_ble_eq_true c6
  have c7 : ∀ p∈i.bl,p.1<65535:=fun p hp=>Nat.le_of_ble_eq_true (List.all_eq_true.1 c7 p hp)
  have c8 : ∀ p∈i.bl,aaJ p.2=true:=fun p hp=>List.all_eq_true.1 c8 p hp
  have c11:hp.get 0=none:=by
   cases h0:hp.get 0 with
   | none=>rfl
   | some b=>rw [h0] at c11;cases c11
  have c12 : ∀ p∈i.ρ,∃ b,hp.get p.2=some b:=fun p hpm=>by
   have:=List.all_eq_true.1 c12 p hpm
   cases h0:hp.get p.2 with
   | none=>rw [h0] at this;cases this
   | some b=>exact ⟨b,rfl⟩
  obtain ⟨k1,k2,k3⟩:=h.2 hp svs i hi;obtain ⟨k4,k5,k6⟩:=k3 c1
  have hρ:=BN c2
  have hC:=iR hs hgs
  simp only [cond_true] at hg;obtain ⟨p,p1,p2,p3⟩:=NW hg k5
  have hH0:aF η0 (acW E hp i.ρ i.m base w) (T.ofList i.bl) i.m 1 base w:=aaM hH hρ c12 c7 c6 k2 c10 c8
  have hd:aD η0 (acW E hp i.ρ i.m base w) i.sv=some args:=AN (S:=subE (fun i=>i) i.ρ i.m E) c9 (oQ hρ k1 hv)
  unfold NV at p2;split at p2
  ·rename_i s bl hs' G
   cases hb:(Nat.ble i.m p.nx&&(Nat.ble (nx+p.nx-i.m) 65000&&(DN 1 p.bl&&i.ρ.all fun q=>inL q.1 p.bl))) with
   | false=>rw [hb] at p2;cases p2
   | true=>
    rw [hb] at p2;cases p2;simp only [Bool.and_eq_true] at hb;obtain ⟨b3,b4,b5,b6⟩:=hb
    have b3:=Nat.le_of_ble_eq_true b3
    have b4:=Nat.le_of_ble_eq_true b4
    obtain ⟨d1,d2⟩:=yB b5
    have hr2:=(k6.mono (Ψ:=fun x st'=>(x = .normal∨x = .ret)/\p.alt.fits i.m st' ()) fun x st' hx=>by
     cases x with
     | exit i=>exact hx.elim
     | normal=>exact ⟨.inl rfl,p3 st' hx⟩
     | ret=>exact ⟨.inr rfl,p3 st' hx⟩).post (Ψ:=fun x st1=>(x = .normal∨x = .ret) /\ ∃ lo,st1=p.alt.st lo ()) fun x st' ⟨hx,hf⟩=>⟨p.alt.st st'.lo (),Alt.fits_sub hf,hx,_,rfl⟩
    refine XR hC h.1 (n0:=i.m) (nx:=i.m) (lo:=1) (Nat.le_refl _) c4 hr2 k4 hH0 (Below.refl base w) hd rfl (Ψ:=fun st' s=>s=p.s/\st'.hp=T.ofList p.bl/\st'.nx=p.nx) (fun x st' hx => ?_) ?_
    ·obtain ⟨hx,lo',rfl⟩:=hx;exact ⟨hx,p.s,p1,rfl,rfl,rfl⟩
    ·rintro st' s' v E' w' ⟨rfl,e1,e2⟩ hd' hH' hB' hn0 hEb hEr hEz hEd hEz0;rw [e1,e2] at hH';obtain ⟨k1,k2,k3⟩:=acX hH hB' hH' hρ c12 c10 c11 (fun a b hab=>by
      rw [hEb a (hρ.lt a b hab)];exact gN (rm:=fun i=>i) hρ hab) (fun k hk j=>by
      rw [hEr k hk j]
      show (if k<i.m then E.r k j else none)=E.r k j
      rw [if_pos hk]) hEz hEd hEz0 c4 c5 b3 b4 G (fun q hq=>(d1 q hq).2) (fun q hq=>(d1 q hq).1) d2 (fun q hq=>TH (List.all_eq_true.1 b6 q hq))
     exact ⟨v,wrE E E' i.m nx,rfl,XU k3 hs' hd',k2,k1,hB.trans hB',hpc,by show nx<=nx+p.nx-i.m;omega⟩
  ·cases p2
 ·cases hg
def vcW (sm:T Smf)(gs:G2)(fi:FI)(inv:Nat->bT)(sv:List Sv) (bl:List (Nat × Blk)) (m:Nat) (l:List (Bool × dV)) (d:dV):Prop:=
 (Nat.ble sv.length fi.ntmps&&Nat.ble fi.ntmps 60000)=true/\
 vcK (mkR sm gs) (lG (mkR sm gs)) 300 fi.ntmps η0 inv noR 400 true m [.code fi.body] ⟨dF 0 sv .nil,T.ofList bl,m,1,[]⟩ (XH m l d)
theorem aaN {sm:T Smf} {gs:G2} (hs:Tab fC sm) (hg:cZ gs) {f:FuncId} {fi:FI} (hF:FI.Ok Try.prog f fi) {rd:T Blk->List Sv->Option NU} (inv:NU->Nat->bT)
  (h : ∀ hp svs i,rd hp svs=some i->qA i.ρ i.m i.sv svs/\d8 (fun i=>i) i.ρ i.m hp i.bl/\(i.ck=true->okL (mkR sm gs) fi i.l i.d/\vcW sm gs fi (inv i) i.sv i.bl i.m i.l i.d)):aeq (mkR sm gs) Try.prog η0 f fi rd:=
 ⟨hF,fun hp svs i hi=>by
  obtain ⟨h1,h2,h3⟩:=h hp svs i hi;exact ⟨h1,h2,fun hc=>⟨(h3 hc).2.1,(h3 hc).1,uD (iR hs hg) (dR hs hg) DQ _ true none (fun _=>rfl) _ _ _ _ (h3 hc).2.2⟩⟩⟩
end
end Go.Ex
