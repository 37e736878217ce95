/-
 Functions that hand back structures of their own in new memory (a pointer to a record, a map, rows that may be written on): what they leave in the caller's heap.
-/
import Derived.Test.YtdpabnfcfakjeaaExK
namespace Go.Ex
open Go Go.Proofs Go.RowKit
open Nat (ble)
noncomputable section
theorem dH.post {P:Program} {η:Env} {nt n0:Nat} {ro:Option Nat} {st:St} {k:List It} {Φ Ψ:Xt->St->Prop} (h:dH P η nt n0 ro st k Φ) (hi : ∀ x g,Φ x g -> ∃ st1,Sub η n0 st1 g/\Ψ x st1):dH P η nt n0 ro st k Ψ:=
 fun m E base w0 a w Q hm hS hn hQ=>h m E base w0 a w Q hm hS hn fun x g E' a' w' hΦ hA hn' hlo hS'=>by
  obtain ⟨st1,hs,hΨ⟩:=hi x g hΦ;obtain ⟨E1,hA1,hS1⟩:=hs.sub E' nt base w0 a' w' hS' hn';exact hQ x st1 E1 a' w' hΨ (hA.trans hA1.comes (Nat.le_refl _)) (hs.nx hn') (hs.lo.trans hlo) hS1
def aau (m δ:Nat):Sc->Option Sc
 | .bool b=>some (.bool b)
 | .int k x=>some (.int k x)
 | .str l=>some (.str l)
 | .ostr l=>some (.ostr l)
 | .ptr none=>some (.ptr none)
 | .ptr (some a)=>bif ble m a.1 then some (.ptr (some (a.1+δ,a.2))) else none
 | .slice none n (.known c)=>some (.slice none n (.known c))
 | .own b n=>bif ble m b then some (.own (b+δ) n) else none
 | .map none=>some (.map none)
 | .map (some b)=>bif ble m b then some (.map (some (b+δ))) else none
 | _=>none
def QX (m δ:Nat):List Sc->Option (List Sc)
 | []=>some []
 | c::l=>match aau m δ c,QX m δ l with
  | some c,some l=>some (c::l)
  | _,_=>none
def aav (m δ:Nat):List (Bool × List Sc)->Option (List (Bool × List Sc))
 | []=>some []
 | c::l=>match QX m δ c.2,aav m δ l with
  | some d,some l=>some ((c.1,d)::l)
  | _,_=>none
def XD (m δ:Nat):Sv->Option Sv
 | .one c=>(aau m δ c).map .one
 | .agg l=>(QX m δ l).map .agg
 | .tup l=>(aav m δ l).map .tup
 | .undef=>none
def vR (m δ:Nat):Blk->Option Blk
 | .cells e sz l=>(QX m δ l).map (.cells e sz)
 | .map ss ag f=>some (.map ss ag f)
 | .row e cs n f=>bif cs.all eY then some (.row e cs n f) else none
 | _=>none
def XE (m δ:Nat):List (Nat × Blk)->Option (List (Nat × Blk))
 | []=>some []
 | p::l=>match vR m δ p.2,XE m δ l with
  | some b,some l=>some ((p.1+δ,b)::l)
  | _,_=>none
variable {η:Env} {E1 E2:Emb} {m δ:Nat}
theorem DL (hE : ∀ i x,m<=i->E1 i=some x->E2 (i+δ)=some x) {c c':Sc} {v:Value} (h:aau m δ c=some c') (hv:c.den η E1=some v):c'.den η E2=some v:=by
 unfold aau at h;split at h<;>first | (cases h;done) | skip
 ·cases h;exact hv
 ·cases h;exact hv
 ·cases h;exact hv
 ·cases h;exact hv
 ·cases h;exact hv
 ·rename_i a
  cases hb:ble m a.1 with
  | false=>rw [hb] at h;cases h
  | true=>
   rw [hb] at h;cases h;simp only [Sc.den,bV] at hv ⊢
   cases he:E1 a.1 with
   | none=>rw [he] at hv;cases hv
   | some B=>rw [he] at hv;rw [hE _ _ (Nat.le_of_ble_eq_true hb) he];exact hv
 ·cases h;exact hv
 ·rename_i b n
  cases hb:ble m b with
  | false=>rw [hb] at h;cases h
  | true=>
   rw [hb] at h;cases h;simp only [Sc.den] at hv ⊢
   cases he:E1 b with
   | none=>rw [he] at hv;cases hv
   | some B=>rw [he] at hv;rw [hE _ _ (Nat.le_of_ble_eq_true hb) he];exact hv
 ·cases h;exact hv
 ·rename_i b
  cases hb:ble m b with
  | false=>rw [hb] at h;cases h
  | true=>
   rw [hb] at h;cases h;simp only [Sc.den] at hv ⊢
   cases he:E1 b with
   | none=>rw [he] at hv;cases hv
   | some B=>rw [he] at hv;rw [hE _ _ (Nat.le_of_ble_eq_true hb) he];exact hv
theorem vS (hE : ∀ i x,m<=i->E1 i=some x->E2 (i+δ)=some x) : ∀ {l l':List Sc} {vs:List Value},QX m δ l=some l'->aQ η E1 l=some vs->aQ η E2 l'=some vs
 | [],l',vs,h,hv=>by cases h;exact hv
 | c::l,l',vs,h,hv=>by
  simp only [QX] at h;split at h
  ·rename_i d m h1 h2
   cases h
   obtain ⟨v,us,e1,e2,rfl⟩:=aR hv;simp only [aQ,DL hE h1 e1,vS hE h2 e2]
  ·cases h
theorem NJ (hE : ∀ i x,m<=i->E1 i=some x->E2 (i+δ)=some x) : ∀ {l l':List (Bool × List Sc)} {vs:List Value},aav m δ l=some l'->aN η E1 l=some vs->aN η E2 l'=some vs
 | [],l',vs,h,hv=>by cases h;exact hv
 | c::l,l',vs,h,hv=>by
  simp only [aav] at h;split at h
  ·rename_i d m h1 h2
   cases h
   simp only [aN] at hv;split at hv
   ·rename_i v us e1 e2
    cases hv
    have e3:bL η E2 (c.1,d)=some v:=by
     obtain ⟨t,cs⟩:=c
     cases t with
     | true=>
      simp only [bL,Option.map_eq_some_iff] at e1 ⊢;obtain ⟨r,g1,g2⟩:=e1;exact ⟨r,vS hE h1 g1,g2⟩
     | false=>
      match cs,h1,e1 with
      | [x],h1,e1=>
       simp only [QX] at h1;split at h1
       ·rename_i y _ h3 h4
        cases h4;cases h1
        simp only [bL] at e1 ⊢;exact DL hE h3 e1
       ·cases h1
      | [],_,e1=>simp [bL] at e1
      | _::_::_,_,e1=>simp [bL] at e1
    simp only [aN,e3,NJ hE h2 e2]
   ·cases hv
  ·cases h
theorem XF (hE : ∀ i x,m<=i->E1 i=some x->E2 (i+δ)=some x) {s s':Sv} {v:Value} (h:XD m δ s=some s') (hv:s.den η E1=some v):s'.den η E2=some v:=by
 cases s with
 | one c=>
  simp only [XD,Option.map_eq_some_iff] at h;obtain ⟨d,h1,rfl⟩:=h;exact DL hE h1 hv
 | agg l=>
  simp only [XD,Option.map_eq_some_iff] at h;obtain ⟨d,h1,rfl⟩:=h;simp only [Sv.den,Option.map_eq_some_iff] at hv ⊢;obtain ⟨r,g1,g2⟩:=hv;exact ⟨r,vS hE h1 g1,g2⟩
 | tup l=>
  simp only [XD,Option.map_eq_some_iff] at h;obtain ⟨d,h1,rfl⟩:=h;simp only [Sv.den,Option.map_eq_some_iff] at hv ⊢;obtain ⟨r,g1,g2⟩:=hv;exact ⟨r,NJ hE h1 g1,g2⟩
 | undef=>cases h
theorem U9 (hE : ∀ i x,m<=i->E1 i=some x->E2 (i+δ)=some x) {b b':Blk} {K:Nat} {o:Option Obj} (h:vR m δ b=some b') (hr:b.Rel η E1 K o):b'.Rel η E2 K o:=by
 cases b with
 | cells e sz l=>
  simp only [vR,Option.map_eq_some_iff] at h;obtain ⟨d,h1,rfl⟩:=h;obtain ⟨c,vs,rest,k1,k2,k3,k4,k5⟩:=hr;exact ⟨c,vs,rest,k1,k2,k3,vS hE h1 k4,k5⟩
 | map ss ag f=>cases h;exact hr
 | row e cs n f=>
  simp only [vR] at h
  cases hc:cs.all eY with
  | false=>rw [hc] at h;cases h
  | true=>
   rw [hc] at h;cases h;obtain ⟨c,k1,k2,k3,k4,k5,k6⟩:=hr;refine ⟨c,k1,k2,k3,k4,k5,fun i hi j hj => ?_⟩
   obtain ⟨q1,u,q2,q3⟩:=k6 i hi j hj;exact ⟨q1,u,q2,bK.plain (tP hc hj) q1 q3⟩
 | arow l=>cases h
 | mat q e s n x m f=>cases h
theorem VA {b b':Blk} (h:vR m δ b=some b'):b'.noM/\b'.own:=by
 cases b with
 | cells e sz l=>
  simp only [vR,Option.map_eq_some_iff] at h;obtain ⟨d,h1,rfl⟩:=h;exact ⟨trivial,trivial⟩
 | map ss ag f=>cases h;exact ⟨trivial,trivial⟩
 | row e cs n f=>
  simp only [vR] at h
  cases hc:cs.all eY with
  | false=>rw [hc] at h;cases h
  | true=>rw [hc] at h;cases h;exact ⟨trivial,trivial⟩
 | arow l=>cases h
 | mat q e s n x m f=>cases h
theorem DM : ∀ {l l':List (Nat × Blk)},XE m δ l=some l' -> ∀ p∈l',∃ q∈l,p.1=q.1+δ/\vR m δ q.2=some p.2
 | [],l',h,p,hp=>by cases h;cases hp
 | q::l,l',h,p,hp=>by
  simp only [XE] at h;split at h
  ·rename_i b m h1 h2
   cases h
   cases hp with
   | head=>exact ⟨q,List.mem_cons_self ..,rfl,h1⟩
   | tail _ hp=>
    obtain ⟨r,g1,g2⟩:=DM h2 p hp;exact ⟨r,List.mem_cons_of_mem _ g1,g2⟩
  ·cases h
def pG (E E1:Emb)(m nx:Nat):Emb:={ E with b:=fun i=>if nx<=i then E1 (i-nx+m) else E i }
theorem VB (E E1:Emb) {m nx i:Nat} (h1:m<=nx) (hi:m<=i):pG E E1 m nx (i+(nx-m))=E1 i:=by
 show (if nx<=i+(nx-m) then E1 (i+(nx-m)-nx+m) else _)=_
 rw [if_pos (by omega),show i+(nx-m)-nx+m=i by omega]
theorem eR (E E1:Emb) {m nx i:Nat} (hi:i<nx):pG E E1 m nx i=E i:=if_neg (by omega)
theorem XG {E E1:Emb} {hp:T Blk} {nx lo base:Nat} {w w':World} (h:aF η E hp nx lo base w) (hb:Below w.heap.size w w') {bl bl':List (Nat × Blk)} {nF:Nat} (hF:aF η E1 (T.ofList bl) nF m w.heap.size w')
  (hnx:m<=nx) (hlo:lo<=nx) (hnF:m<=nF) (hlim:nx+nF-m<=65000) (hsh:XE m (nx-m) bl=some bl') (hlt : ∀ p∈bl,m<=p.1/\p.1<65535) (hnd : ∀ p∈bl,(T.ofList bl).get p.1=some p.2):
  aF η (pG E E1 m nx) (fP hp bl') (nx+nF-m) lo base w'/\aJ E (pG E E1 m nx) nx /\ ∀ i x,m<=i->E1 i=some x->pG E E1 m nx (i+(nx-m))=some x:=by
 have hb1:=h.below hb
 have hsz:=hb.size
 have hle:E.le (pG E E1 m nx):=⟨(fun i x hx=>by
  rcases Nat.lt_or_ge i nx with hi | hi
  ·rw [eR _ _ hi];exact hx
  ·rw [h.free i hi] at hx;cases hx),fun _ _ _ h=>h,fun _ _ _ h=>h,fun _ _ _ h=>h⟩
 have hnew : ∀ i x,nx<=i->pG E E1 m nx i=some x->E1 (i-nx+m)=some x:=fun i x hi hx=>by
  have:(if nx<=i then E1 (i-nx+m) else E i)=some x:=hx
  rwa [if_pos hi] at this
 have hge : ∀ i B K,nx<=i->pG E E1 m nx i=some (B,K)->w.heap.size<=B:=fun i B K hi hx=>hF.hi _ B K (by omega) (hnew i _ hi hx)
 have hold : ∀ i B K,i<nx->pG E E1 m nx i=some (B,K)->B<w.heap.size:=fun i B K hi hx=>by
  rw [eR _ _ hi] at hx;exact h.top i B K hx
 have hsm : ∀ p∈bl',p.1<65535:=fun p hp=>by
  obtain ⟨q,g1,g2,_⟩:=DM hsh p hp
  have:=hF.dom q.1 q.2 (hnd q g1)
  omega
 have hget : ∀ i b,(fP hp bl').get i=some b->(nx<=i /\ ∃ q∈bl,i=q.1+(nx-m)/\vR m (nx-m) q.2=some b)∨(i<nx/\hp.get i=some b):=fun i b hi=>by
  rcases rX hsm i b hi with ⟨p,hp1,rfl⟩ | hi
  ·obtain ⟨q,g1,g2,g3⟩:=DM hsh _ hp1
   have:=(hlt q g1).1
   exact .inl ⟨by omega,q,g1,g2,g3⟩
  ·exact .inr ⟨h.dom i b hi,hi⟩
 have hE : ∀ i x,E1 i=some x->m<=i->pG E E1 m nx (i+(nx-m))=some x:=fun i x hx hi=>by rw [VB _ _ hnx hi];exact hx
 refine ⟨⟨fun i b hi => ?_,fun i b hi => ?_,fun i j b c B C K L hij hi hj hEi hEj => ?_,fun i B K hl hEi => ?_,fun i B K hEi => ?_,hb1.bot,fun i hi => ?_,hlim,hb1.zw,fun i b B K hi ho hEi o => ?_,fun k hk=>h.rfree k (by omega),fun D o hD=>⟨(hb1.dk D o hD).1,(hb1.dk D o hD).2.1,(hb1.dk D o hD).2.2.1,fun i K hEi => ?_⟩,h.rn,?_⟩,⟨fun i hi=>eR _ _ hi,fun _ _ _=>rfl,fun _ _ _ h=>h,fun _ _ h=>h,rfl,fun _ _ _=>rfl⟩,fun i x hi hx=>hE i x hx hi⟩
 ·rcases hget i b hi with ⟨_,q,g1,g2,_⟩ | ⟨hi',_⟩
  ·have:=hF.dom q.1 q.2 (hnd q g1)
   omega
  ·omega
 ·rcases hget i b hi with ⟨_,q,g1,g2,g3⟩ | ⟨hi',hi⟩
  ·obtain ⟨B,K,k1,k2⟩:=hF.cell q.1 q.2 (hnd q g1)
   have hq1:=(hlt q g1).1
   refine ⟨B,K,by rw [g2];exact hE _ _ k1 hq1,?_⟩
   exact U9 (E1:=E1) (E2:=pG E E1 m nx) (fun j x hj hx=>hE j x hx hj) g3 k2
  ·obtain ⟨B,K,k1,k2⟩:=hb1.cell i b hi;exact ⟨B,K,by rw [eR _ _ hi'];exact k1,k2.mono hle⟩
 ·rcases hget i b hi with ⟨h1,q,g1,g2,_⟩ | ⟨h1,hi⟩<;>rcases hget j c hj with ⟨h2,r,g4,g5,_⟩ | ⟨h2,hj⟩
  ·have e1:=hnew i _ h1 hEi
   have e2:=hnew j _ h2 hEj
   have a1:=(hlt q g1).1
   have a2:=(hlt r g4).1
   rw [show i-nx+m=q.1 by omega] at e1
   rw [show j-nx+m=r.1 by omega] at e2
   exact hF.inj q.1 r.1 q.2 r.2 B C K L (by omega) (hnd q g1) (hnd r g4) e1 e2
  ·have:=hge i B K h1 hEi
   have:=hold j C L h2 hEj
   omega
  ·have:=hold i B K h1 hEi
   have:=hge j C L h2 hEj
   omega
  ·rw [eR _ _ h1] at hEi;rw [eR _ _ h2] at hEj;exact h.inj i j b c B C K L hij hi hj hEi hEj
 ·rcases Nat.lt_or_ge i nx with hi | hi
  ·rw [eR _ _ hi] at hEi;exact h.hi i B K hl hEi
  ·have:=hge i B K hi hEi
   have:=h.bot
   omega
 ·rcases Nat.lt_or_ge i nx with hi | hi
  ·have:=hold i B K hi hEi
   omega
  ·exact hF.top _ B K (hnew i _ hi hEi)
 ·show (if nx<=i then E1 (i-nx+m) else E i)=none
  rw [if_pos (by omega)]
  exact hF.free _ (by omega)
 ·rcases hget i b hi with ⟨h1,_⟩ | ⟨h1,hi⟩
  ·have:=hge i B K h1 hEi
   cases hz:E.z B o with
   | none=>exact hz
   | some v=>have:=h.zlt hz;omega
  ·rw [eR _ _ h1] at hEi;exact h.zd i b B K hi ho hEi o
 ·rcases Nat.lt_or_ge i nx with hi | hi
  ·rw [eR _ _ hi] at hEi;exact (h.dk D o hD).2.2.2 i K hEi
  ·have:=hge i D K hi hEi
   have:=(Array.getElem?_eq_some_iff.1 (h.dk D o hD).2.1).1
   omega
 ·have hm:=hb1.mt
  refine hm.keep (fun _ _=>rfl) (by omega) hm.hi (Nat.le_refl _) (fun b' q' e' s' n' x' m' f' hg => ?_) (fun _ _ _ h=>h) (fun _ _=>rfl) (fun _ _=>rfl) hm.z (fun B hB j c K hj hEj => ?_)
  ·rcases hget b' _ hg with ⟨_,q,_,_,g3⟩ | ⟨h1,hg⟩
   ·exact (VA g3).1.elim
   ·exact ⟨hg,eR _ _ h1⟩
  ·rcases hget j c hj with ⟨h1,_⟩ | ⟨h1,hj⟩
   ·have:=hge j B K h1 hEj
    have:=MIn.lt h.mt hB
    omega
   ·rw [eR _ _ h1] at hEj;exact h.mt.own B hB j c K hj hEj
structure dV where
 tl:List (Nat × Sv)
 bl:List (Nat × Blk)
 nx:Nat
 s:Sv
def dV.alt (p:dV):Alt:=⟨Unit,fun _=>True,fun _=>0,fun _=>p.tl,fun _=>p.bl,p.nx⟩
def dV.ok (C:Cx)(fi:FI)(p:dV):Prop:=vA C (T.ofList p.bl) (T.ofList p.tl) fi.res=some p.s
def okL (C:Cx)(fi:FI):List (Bool × dV)->dV->Prop
 | [],d=>d.ok C fi
 | p::l,d=>p.2.ok C fi/\okL C fi l d
def aaw (m:Nat)(g:St):List (Bool × dV)->dV->Prop
 | [],d=>d.alt.fits m g ()
 | p::l,d=>(p.1=true->p.2.alt.fits m g ())/\(p.1=false->aaw m g l d)
def XH (m:Nat) (l:List (Bool × dV)) (d:dV):Xt->St->Prop:=fun x g=>match x with
 | .exit _=>False
 | _=>aaw m g l d
abbrev aen (l:List (Bool × dV)) (d:dV):Xt->St->Prop:=XH 1 l d
def XI (C:Cx)(P:Program)(η:Env)(f:FuncId)(fi:FI)(A:List PT)(ck:List FD->Bool) (l:List FD->List (Bool × dV)) (d:List FD->dV):Prop:=
 FI.Ok P f fi /\ ∀ fds,FitL (sigS A) fds->ck fds=true->((ble (j0 0 A fds).length fi.ntmps&&ble fi.ntmps 60000)=true/\okL C fi (l fds) (d fds)/\dH P η fi.ntmps 1 none (BO A fds) [.code fi.body] (aen (l fds) (d fds)))
def inL (n:Nat):List (Nat × Blk)->Bool
 | []=>false
 | p::l=>Nat.beq n p.1||inL n l
def DN (m:Nat):List (Nat × Blk)->Bool
 | []=>true
 | p::l => !inL p.1 l&&(ble m p.1&&(Nat.blt p.1 65535&&DN m l))
theorem XJ {n:Nat} : ∀ {l:List (Nat × Blk)} {p:Nat × Blk},p∈l->p.1=n->inL n l=true
 | q::l,p,h,e=>by
  cases h with
  | head=>simp [inL,e]
  | tail _ h=>simp [inL,XJ h e]
theorem yB {m:Nat} : ∀ {l:List (Nat × Blk)},DN m l=true->(∀ p∈l,m<=p.1/\p.1<65535) /\ ∀ p∈l,(T.ofList l).get p.1=some p.2
 | [],_=>⟨(fun p h=>by cases h),(fun p h=>by cases h)⟩
 | q::l,h=>by
  simp only [DN,Bool.and_eq_true,Bool.not_eq_true'] at h;obtain ⟨h1,h2,h3,h4⟩:=h;obtain ⟨g1,g2⟩:=yB h4
  have h2:=Nat.le_of_ble_eq_true h2
  have h3:q.1<65535:=Nat.le_of_ble_eq_true h3
  refine ⟨fun p hp => ?_,fun p hp => ?_⟩
  ·cases hp with
   | head=>exact ⟨h2,h3⟩
   | tail _ hp=>exact g1 p hp
  ·show ((T.ofList l).set q.1 (some q.2)).get p.1=some p.2
   cases hp with
   | head=>rw [T.get_set_same _ _ _ h3]
   | tail _ hp=>
    rw [T.get_set_ne _ _ _ _ (fun e=>by
     have:=XJ hp e.symm
     rw [h1] at this;cases this)]
    exact g2 p hp
def HX (m:Nat)(hp:T Blk)(nx lo:Nat)(pc:PC)(p:dV):aB (Sv × ((T Blk × Nat) × PC)):=
 match XD m (nx-m) p.s,XE m (nx-m) p.bl with
 | some s,some bl=>bif ble m nx&&(ble lo nx&&(ble m p.nx&&(ble (nx+p.nx-m) 65000&&DN m p.bl))) then .leaf (s,((fP hp bl,nx+p.nx-m),pc)) else .fail
 | _,_ => .fail
def XK (m:Nat)(hp:T Blk)(nx lo:Nat)(pc:PC):List (Bool × dV)->dV->aB (Sv × ((T Blk × Nat) × PC))
 | [],d=>HX m hp nx lo pc d
 | p::l,d => .fork (.tm p.1) (HX m hp nx lo pc p.2) (XK m hp nx lo pc l d)
def acR (A:List PT)(ck:List FD->Bool) (l:List FD->List (Bool × dV)) (d:List FD->dV):Esf:=fun hp nx lo svs pc=>
 match mJ A svs with
 | some fds=>chk (ck fds) (XK 1 hp nx lo pc (l fds) (d fds))
 | none => .fail
theorem HY {C:Cx} {P:Program} {η:Env} (hC:C.Ok P η) {f:FuncId} {fi:FI} (hF:FI.Ok P f fi) {m:Nat} {svs0:List Sv} {hp0:T Blk} {p:dV} (hok:p.ok C fi) (hlen:(ble svs0.length fi.ntmps&&ble fi.ntmps 60000)=true)
  (hr:dH P η fi.ntmps m none ⟨dF 0 svs0 .nil,hp0,m,m,[]⟩ [.code fi.body] fun x g=>(x = .normal∨x = .ret)/\p.alt.fits m g ()) {hp:T Blk} {nx lo:Nat} {pc:PC} {r:Sv × ((T Blk × Nat) × PC)} (hg:(HX m hp nx lo pc p).at_ η=some r) (hpc:pc.holds η)
  {E E0:Emb} {base:Nat} {w0 w:World} {args:List Value} (hH:aF η E hp nx lo base w) (hB:Below base w0 w) (hH0:aF η E0 hp0 m m w.heap.size w) (hv:aD η E0 svs0=some args) (hdl:E0.dl.l=[]):
  Calls P f args.toArray w fun e w' => ∃ v E',e = .returned v/\r.1.den η E'=some v/\aJ E E' nx/\aF η E' r.2.1.1 r.2.1.2 lo base w'/\Below base w0 w'/\r.2.2.holds η/\nx<=r.2.1.2:=by
 unfold HX at hg;split at hg
 ·rename_i s bl hs hbl
  cases hb:(ble m nx&&(ble lo nx&&(ble m p.nx&&(ble (nx+p.nx-m) 65000&&DN m p.bl)))) with
  | false=>rw [hb] at hg;cases hg
  | true=>
   rw [hb] at hg;cases hg;simp only [Bool.and_eq_true] at hb;obtain ⟨b1,b2,b3,b4,b5⟩:=hb
   have b1:=Nat.le_of_ble_eq_true b1
   have b2:=Nat.le_of_ble_eq_true b2
   have b3:=Nat.le_of_ble_eq_true b3
   have b4:=Nat.le_of_ble_eq_true b4
   obtain ⟨d1,d2⟩:=yB b5
   have hr2:=hr.post (Ψ:=fun x st1=>(x = .normal∨x = .ret) /\ ∃ lo,st1=p.alt.st lo ()) fun x g ⟨hx,hf⟩=>⟨p.alt.st g.lo (),Alt.fits_sub hf,hx,_,rfl⟩
   refine KC hC hF (n0:=m) (nx:=m) (lo:=m) (Nat.le_refl _) (Nat.le_refl _) hr2 hlen hH0 (Below.refl _ _) hv hdl (Ψ:=fun g s=>s=p.s/\g.hp=T.ofList p.bl/\g.nx=p.nx) (fun x g hx => ?_) ?_
   ·obtain ⟨hx,lo',rfl⟩:=hx;exact ⟨hx,p.s,hok,rfl,rfl,rfl⟩
   ·rintro g s' v E' w' ⟨rfl,e1,e2⟩ hd hH' hB' hz0;rw [e1,e2] at hH';obtain ⟨k1,k2,k3⟩:=XG hH hB' hH' b1 b2 b3 b4 hbl d1 d2;exact ⟨v,pG E E' m nx,rfl,XF (fun i x hi hx=>k3 i x hi hx) hs hd,k2,k1,hB.trans (hB'.mono hH.bot),hpc,by show nx<=nx+p.nx-m;omega⟩
 ·cases hg
theorem yC {m:Nat} {C:Cx} {fi:FI} {hp:T Blk} {nx lo:Nat} {pc:PC} {r:Sv × ((T Blk × Nat) × PC)} {η:Env} : ∀ {l:List (Bool × dV)} {d:dV},(XK m hp nx lo pc l d).at_ η=some r->okL C fi l d -> ∃ p:dV,p.ok C fi/\(HX m hp nx lo pc p).at_ η=some r /\ ∀ g,aaw m g l d->p.alt.fits m g ()
 | [],d,h,hk=>⟨d,hk,h,fun _ h=>h⟩
 | (c,p)::l,d,h,hk=>by
  have h:(if (fK.tm c).den η=true then (HX m hp nx lo pc p).at_ η else (XK m hp nx lo pc l d).at_ η)=some r:=h
  cases c with
  | true=>exact ⟨p,hk.1,by rwa [if_pos (show fK.den η (fK.tm true)=true from rfl)] at h,fun g he=>he.1 rfl⟩
  | false=>
   rw [if_neg (by simp [fK.den])] at h
   obtain ⟨q,q1,q2,q3⟩:=yC h hk.2;exact ⟨q,q1,q2,fun g he=>q3 g (he.2 rfl)⟩
theorem aax {sm:T Smf} {gs:G2} (hs:Tab fC sm) (hgs:cZ gs) {f:FuncId} {fi:FI} {A:List PT} {ck:List FD->Bool} {l:List FD->List (Bool × dV)} {d:List FD->dV} (h:XI (mkR sm gs) Try.prog η0 f fi A ck l d):J4 f (acR A ck l d):=by
 intro hp nx lo svs pc r hg hpc hlo E base w0 w args hH hB hv;refine ⟨bU h.1 _ w,?_⟩;unfold acR at hg;split at hg
 ·rename_i fds hfds;obtain ⟨hck,hg⟩:=eZ hg;obtain ⟨_,q2⟩:=iG (η:=η0) (E:=E) (E0:=yL E (cellsOf A args)) rfl (k:=0) hfds hv (fun i v hi=>by rw [Nat.zero_add];exact hi)
  obtain ⟨k1,k2,k4⟩:=h.2 fds q2 hck
  have hC:=iR hs hgs
  obtain ⟨p,p1,p2,p3⟩:=yC hg k2;obtain ⟨q1,_⟩:=iG (η:=η0) (E:=E) (E0:=yL E (cellsOf A args)) rfl (k:=0) hfds hv (fun i v hi=>by rw [Nat.zero_add];exact hi)
  exact HY hC h.1 p1 k1 (k4.mono fun x g hx=>by
   cases x with
   | exit i=>exact hx.elim
   | normal=>exact ⟨.inl rfl,p3 g hx⟩
   | ret=>exact ⟨.inr rfl,p3 g hx⟩) p2 hpc hH hB (t7 hH.zw _) q1 rfl
 ·cases hg
def vcN (sm:T Smf)(gs:G2)(fi:FI)(A:List PT)(inv:Nat->bT)(fds:List FD) (l:List (Bool × dV)) (d:dV):Prop:=
 (ble (j0 0 A fds).length fi.ntmps&&ble fi.ntmps 60000)=true/\
 vcK (mkR sm gs) (lG (mkR sm gs)) 300 fi.ntmps η0 inv noR 400 true 1 [.code fi.body] (BO A fds) (aen l d)
theorem XL {sm:T Smf} {gs:G2} (hs:Tab fC sm) (hg:cZ gs) {f:FuncId} {fi:FI} (hF:FI.Ok Try.prog f fi) {A:List PT} {ck:List FD->Bool} {l:List FD->List (Bool × dV)} {d:List FD->dV} (inv:List FD->Nat->bT)
  (h : ∀ fds,FitL (sigS A) fds->ck fds=true->okL (mkR sm gs) fi (l fds) (d fds)/\vcN sm gs fi A (inv fds) fds (l fds) (d fds)):XI (mkR sm gs) Try.prog η0 f fi A ck l d:=
 ⟨hF,fun fds hf hc=>⟨(h fds hf hc).2.1,(h fds hf hc).1,uD (iR hs hg) (dR hs hg) DQ _ true none (fun _=>rfl) _ _ _ _ (h fds hf hc).2.2⟩⟩
end
end Go.Ex
namespace Go.Ex
open Go Go.Proofs Go.RowKit
open Nat (ble)
noncomputable section
structure NK where
 ρ:List (Nat × Nat)
 sv:List Sv
 bl:List (Nat × Blk)
 m:Nat
 l:List (Bool × dV)
 d:dV
 ck:Bool
def qA (ρ:List (Nat × Nat)) (m:Nat):List Sv->List Sv->Prop
 | [],[]=>True
 | a::l,b::k=>DZ (fun i=>i) ρ m a b/\qA ρ m l k
 | _,_=>False
theorem oQ {ρ:List (Nat × Nat)} {n0 m lo:Nat} (hρ:mI ρ n0 m lo) {η:Env} {E:Emb} : ∀ {l k:List Sv} {vs:List Value},qA ρ m l k->aD η E k=some vs->aD η (subE (fun i=>i) ρ m E) l=some vs
 | [],[],vs,_,h=>by cases h;rfl
 | a::l,b::k,vs,hs,h=>by
  obtain ⟨v,us,e1,e2,rfl⟩:=aI h;simp only [aD,IA hρ hs.1 e1,oQ hρ hs.2 e2]
 | [],_::_,_,h,_=>h.elim
 | _::_,[],_,h,_=>h.elim
def acS (rd:T Blk->List Sv->Option NK):Esf:=fun hp nx lo svs pc=>match rd hp svs with
 | some i=>chk i.ck (bif N2 i.ρ 0 i.m nx&&(ble i.m nx&&(ble i.m 65000&&AP 65535 i.bl)) then XK i.m hp nx lo pc i.l i.d else .fail)
 | none => .fail
def XM (C:Cx)(P:Program)(η:Env)(f:FuncId)(fi:FI)(rd:T Blk->List Sv->Option NK):Prop:=
 FI.Ok P f fi /\ ∀ hp svs i,rd hp svs=some i->qA i.ρ i.m i.sv svs/\d8 (fun i=>i) i.ρ i.m hp i.bl/\(i.ck=true->((ble i.sv.length fi.ntmps&&ble fi.ntmps 60000)=true/\okL C fi i.l i.d/\
  dH P η fi.ntmps i.m none ⟨dF 0 i.sv .nil,T.ofList i.bl,i.m,i.m,[]⟩ [.code fi.body] (XH i.m i.l i.d)))
theorem aay {sm:T Smf} {gs:G2} (hs:Tab fC sm) (hgs:cZ gs) {f:FuncId} {fi:FI} {rd:T Blk->List Sv->Option NK} (h:XM (mkR sm gs) Try.prog η0 f fi rd):J4 f (acS rd):=by
 intro hp nx lo svs pc r hg hpc hlo E base w0 w args hH hB hv;refine ⟨bU h.1 _ w,?_⟩;unfold acS at hg;split at hg
 ·rename_i i hi;obtain ⟨c1,hg⟩:=eZ hg
  cases hck:(N2 i.ρ 0 i.m nx&&(ble i.m nx&&(ble i.m 65000&&AP 65535 i.bl))) with
  | false=>rw [hck] at hg;cases hg
  | true=>
  rw [hck] at hg;simp only [Bool.and_eq_true] at hck;obtain ⟨c2,c3,c4,c5⟩:=hck;obtain ⟨k1,k2,k3⟩:=h.2 hp svs i hi;obtain ⟨k4,k5,k6⟩:=k3 c1
  have hρ:=BN c2
  have c3:=Nat.le_of_ble_eq_true c3
  have c4:=Nat.le_of_ble_eq_true c4
  have c5 : ∀ p∈i.bl,p.1<65535:=fun p hp=>Nat.le_of_ble_eq_true (List.all_eq_true.1 c5 p hp)
  have hC:=iR hs hgs
  obtain ⟨p,p1,p2,p3⟩:=yC hg k5
  have hH0:aF η0 (((subE (fun i=>i) i.ρ i.m E.z00).z00).dl0 []) (T.ofList i.bl) i.m i.m w.heap.size w:=((hH.z00.subE hρ c5 c4 k2 (fun k h1 h2=>by omega)).z00).dl0 []
  have hd:aD η0 (((subE (fun i=>i) i.ρ i.m E.z00).z00).dl0 []) i.sv=some args:=cJ (Emb.le_dl0 _ _) (cJ (Emb.le_z00 _) (oQ hρ k1 (cJ E.le_z00 hv)))
  exact HY hC h.1 p1 k4 (k6.mono fun x g hx=>by
   cases x with
   | exit i=>exact hx.elim
   | normal=>exact ⟨.inl rfl,p3 g hx⟩
   | ret=>exact ⟨.inr rfl,p3 g hx⟩) p2 hpc hH hB hH0 hd rfl
 ·cases hg
def vcR (sm:T Smf)(gs:G2)(fi:FI)(inv:Nat->bT)(sv:List Sv) (bl:List (Nat × Blk)) (m:Nat) (l:List (Bool × dV)) (d:dV):Prop:=
 (ble sv.length fi.ntmps&&ble fi.ntmps 60000)=true/\
 vcK (mkR sm gs) (lG (mkR sm gs)) 300 fi.ntmps η0 inv noR 400 true m [.code fi.body] ⟨dF 0 sv .nil,T.ofList bl,m,m,[]⟩ (XH m l d)
theorem TE {sm:T Smf} {gs:G2} (hs:Tab fC sm) (hg:cZ gs) {f:FuncId} {fi:FI} (hF:FI.Ok Try.prog f fi) {rd:T Blk->List Sv->Option NK} (inv:NK->Nat->bT)
  (h : ∀ hp svs i,rd hp svs=some i->qA i.ρ i.m i.sv svs/\d8 (fun i=>i) i.ρ i.m hp i.bl/\(i.ck=true->okL (mkR sm gs) fi i.l i.d/\vcR sm gs fi (inv i) i.sv i.bl i.m i.l i.d)):XM (mkR sm gs) Try.prog η0 f fi rd:=
 ⟨hF,fun hp svs i hi=>by
  obtain ⟨h1,h2,h3⟩:=h hp svs i hi;exact ⟨h1,h2,fun hc=>⟨(h3 hc).2.1,(h3 hc).1,uD (iR hs hg) (dR hs hg) DQ _ true none (fun _=>rfl) _ _ _ _ (h3 hc).2.2⟩⟩⟩
end
end Go.Ex
