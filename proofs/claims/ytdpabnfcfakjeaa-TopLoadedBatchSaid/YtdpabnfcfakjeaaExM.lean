/-
 The executor: maps from texts.
-/
import Derived.Test.YtdpabnfcfakjeaaEx9a
import Derived.MapKept
namespace Go.Ex
open Go Go.RowKit Go.MapKept
noncomputable section
def Q1 (c:Sc):Option (Sh × FD):=
 match c with
 | .int k (.lit n)=>some (.int k,.int k n)
 | .int k (.tm n)=>some (.int k,.int k n)
 | .bool (.lit b)=>some (.bool,.bool b)
 | .bool (.at_ false (.tm b))=>some (.bool,.bool b)
 | .str l=>some (.str,.str l)
 | .ostr l=>some (.str,.str l)
 | .fz _ (.list cs n f)=>some (.list cs,.list cs n f)
 | _=>none
theorem vU {η:Env} {E:Emb} {c:Sc} {s:Sh} {d:FD} {v:Value} (h:Q1 c=some (s,d)) (hv:c.den η E=some v):s.ex d=d/\bK E.z d v:=by
 unfold Q1 at h;split at h<;>first | (cases h;done) | skip
 ·cases h;cases hv;exact ⟨rfl,rfl⟩
 ·cases h;cases hv;exact ⟨rfl,rfl⟩
 ·cases h;cases hv;exact ⟨rfl,rfl⟩
 ·cases h;cases hv;exact ⟨rfl,by simp [bK,Bx.den,fK.den]⟩
 ·cases h;cases hv;exact ⟨rfl,rfl⟩
 ·cases h;cases hv;exact ⟨rfl,rfl⟩
 ·cases h;exact ⟨rfl,(aP.1 hv).2⟩
def qC:List Sc->Option (List Sh × List FD)
 | []=>some ([],[])
 | c::l=>match Q1 c,qC l with
  | some (s,d),some (ss,ds)=>some (s::ss,d::ds)
  | _,_=>none
theorem lN {η:Env} {E:Emb} : ∀ {l:List Sc} {ss:List Sh} {ds:List FD} {vs:List Value},qC l=some (ss,ds)->aQ η E l=some vs->
  ss.length=l.length /\ ∀ j,j<l.length->(jW ss j).ex (bD ds j)=bD ds j /\ ∃ u,vs[j]? = some u/\bK E.z (bD ds j) u
 | [],ss,ds,vs,h,_=>by cases h;exact ⟨rfl,fun j hj=>by simp at hj⟩
 | c::l,ss,ds,vs,h,hv=>by
  obtain ⟨v,us,h1,h2,rfl⟩:=aR hv;simp only [qC] at h;split at h
  ·rename_i s d ss' ds' hs hl
   cases h
   obtain ⟨g1,g2⟩:=lN hl h2;refine ⟨by simp [g1],fun j hj => ?_⟩
   cases j with
   | zero=>
    obtain ⟨k1,k2⟩:=vU hs h1;exact ⟨k1,v,rfl,k2⟩
   | succ j=>
    obtain ⟨k1,u,k2,k3⟩:=g2 j (by simpa using hj)
    exact ⟨k1,u,by simpa using k2,k3⟩
  ·cases h
theorem S5.empty (ss:List Sh)(ag:Bool):S5 ss ag (fun _=>none) #[]:=⟨by simp,by simp,(fun _ _ h=>by cases h),by simp⟩
theorem H2 {v:Value} (h:abj v):IsKey .string v:=by
 cases v<;>first | trivial | exact h.elim
def aaC (s:Sv):Option (List UInt8):=
 match s with
 | .one (.str l)=>some l
 | .one (.ostr l)=>some l
 | _=>none
theorem NO {η:Env} {E:Emb} {s:Sv} {l:List UInt8} {v:Value} (h:aaC s=some l) (hv:s.den η E=some v):v = .string ⟨l.toArray⟩:=by
 unfold aaC at h;split at h<;>first | (cases h;done) | skip
 ·cases h;cases hv;rfl
 ·cases h;cases hv;rfl
def aep:Sh->Sh->Bool
 | .bool,.bool=>true
 | .int k,.int k'=>decide (k=k')
 | .str,.str=>true
 | _,_=>false
def DR:List Sh->List Sh->Bool
 | [],[]=>true
 | a::l,b::m=>aep a b&&DR l m
 | _,_=>false
theorem aaD {a b:Sh} (h:aep a b=true):a=b/\eY a=true:=by
 cases a<;>cases b<;>first | (cases h;done) | skip
 ·exact ⟨rfl,rfl⟩
 ·exact ⟨by rw [of_decide_eq_true h],rfl⟩
 ·exact ⟨rfl,rfl⟩
theorem DS : ∀ {l m:List Sh},DR l m=true->l=m /\ ∀ j,j<l.length->eY (jW l j)=true
 | [],[],_=>⟨rfl,fun j hj=>by simp at hj⟩
 | [],_::_,h=>by cases h
 | _::_,[],h=>by cases h
 | a::l,b::m,h=>by
  simp only [DR,Bool.and_eq_true] at h;obtain ⟨e1,e2⟩:=aaD h.1;obtain ⟨e3,e4⟩:=DS h.2;refine ⟨by rw [e1,e3],fun j hj => ?_⟩
  cases j with
  | zero=>exact e2
  | succ j=>exact e4 j (by simpa using hj)
theorem bK.plain {z z':Nat->Nat->Option Value} {s:Sh} {d:FD} {u:Value} (hs:eY s=true) (he:s.ex d=d) (h:bK z d u):bK z' d u:=by
 cases s with
 | bool=>rw [←he] at h ⊢;exact h
 | int k=>rw [←he] at h ⊢;exact h
 | str=>rw [←he] at h ⊢;exact h
 | list cs=>cases hs
theorem Q2 {η:Env} {E:Emb} {r:Ref} {s:Sh} {d:FD} {u:Value} {z:Nat->Nat->Option Value} (hs:eY s=true) (he:s.ex d=d) (h:bK z d u):(dD r s d).den η E=some u:=by
 cases s with
 | bool=>rw [←he] at h;cases h;simp [dD,Sc.den,d7]
 | int k=>rw [←he] at h;cases h;simp [dD,Sc.den,Ix.den]
 | str=>rw [←he] at h;cases h;simp [dD,Sc.den]
 | list cs=>cases hs
def mgt (o:Option (List FD)) (g:List FD) (j:Nat):FD:=
 match o with
 | some ds=>bD ds j
 | none=>bD g j
def qD (D:Nat->FD):Nat->List Sh->List Sc
 | _,[]=>[]
 | j,s::l=>dD (.root 0 0) s (D j)::qD D (j+1) l
theorem yE {η:Env} {E:Emb} {D:Nat->FD} {z:Nat->Nat->Option Value} : ∀ {ss:List Sh} {vs:List Value} {k:Nat},vs.length=ss.length->(∀ j,j<ss.length->eY (jW ss j)=true/\(jW ss j).ex (D (k+j))=D (k+j) /\ ∃ u,vs[j]? = some u/\bK z (D (k+j)) u)->aQ η E (qD D k ss)=some vs
 | [],[],_,_,_=>rfl
 | s::ss,v::vs,k,hl,h=>by
  obtain ⟨h1,h2,u,h3,h4⟩:=h 0 (by simp)
  cases h3
  have ih:=yE (η:=η) (E:=E) (D:=D) (z:=z) (ss:=ss) (vs:=vs) (k:=k+1) (by simpa using hl) fun j hj=>by
   have:=h (j+1) (by simpa using hj)
   rw [show k+(j+1)=k+1+j by omega] at this
   simpa [jW] using this
  simp only [qD,aQ];rw [show (dD (.root 0 0) s (D k)).den η E=some v from Q2 (s:=s) h1 h2 h4,ih]
 | [],_::_,_,h,_=>by simp at h
 | _::_,[],_,h,_=>by simp at h
def iT (o:Option (List FD)):Bool:=
 match o with
 | some _=>true
 | none=>false
def XO (ss:List Sh)(ag ok:Bool) (o:Option (List FD)) (g:List FD):Option Sv:=
 match ok with
 | true=>some (.tup [(ag,qD (mgt o g) 0 ss),(false,[.bool (tb (iT o))])])
 | false=>match ag with
  | true=>some (.agg (qD (mgt o g) 0 ss))
  | false=>match qD (mgt o g) 0 ss with
   | [c]=>some (.one c)
   | _=>none
def XP (C:Cx)(hp:T Blk)(t:TypeId)(x k:Sv)(ok:Bool):Option Sv:=
 match x,aaC k,C.tt.get t with
 | .one (.map (some b)),some l,some ti=>match ti.d,hp.get b with
  | .map kt et,some (.map ss ag f)=>match C.tt.get kt,C.tt.get et with
   | some ki,some ei=>match ki.d,qC ei.zero with
    | .string,some (ss',g)=>bif DR ss ss'&&(ag==ei.agg) then XO ss ag ok (f l) g else none
    | _,_=>none
   | _,_=>none
  | _,_=>none
 | _,_,_=>none
theorem H3 {η:Env} {E:Emb} {ss:List Sh} {ag ok:Bool} {o:Option (List FD)} {g:List FD} {s:Sv} {v:Value} {vs:List Value} (h:XO ss ag ok o g=some s) (hd:aQ η E (qD (mgt o g) 0 ss)=some vs)
  (hv:AgV ag v vs):s.den η E=some (if ok then .tuple #[v,.bool (iT o)] else v):=by
 have hb:(Sc.bool (tb (iT o))).den η E=some (.bool (iT o)):=by simp [Sc.den,d7]
 cases ag with
 | true=>
  have hv:v = .agg vs.toArray:=hv
  subst hv
  cases ok with
  | true=>cases h;simp [Sv.den,aN,bL,hd,aQ,hb]
  | false=>cases h;simp [Sv.den,hd]
 | false=>
  have hv:vs=[v]:=hv
  subst hv
  have : ∃ c,qD (mgt o g) 0 ss=[c]:=by
   have:=bC hd
   match hm:qD (mgt o g) 0 ss,this with
   | [c],_=>exact ⟨c,rfl⟩
  obtain ⟨c,hc⟩:=this;rw [hc] at hd;obtain ⟨u,us,e1,e2,e3⟩:=aR hd
  cases e3
  cases ok with
  | true=>
   cases h
   rw [hc];simp [Sv.den,aN,bL,e1,aQ,hb]
  | false=>
   simp only [XO,hc] at h
   cases h
   simp [Sv.den,e1]
theorem VD {C:Cx} {P:Program} {η:Env} {E:Emb} (hC:C.Ok P η) {hp:T Blk} {nx lo base:Nat} {w:World} (hH:aF η E hp nx lo base w) {t:TypeId} {x k s:Sv} {ok:Bool} {vx vk:Value} (h:XP C hp t x k ok=some s) (hx:x.den η E=some vx) (hk:k.den η E=some vk):
  ∃ v,s.den η E=some v/\(Instr.lookup t vx vk ok).run P w = .ok v w:=by
 unfold XP at h;split at h<;>first | (cases h;done) | skip
 rename_i b l ti hl hti;split at h<;>first | (cases h;done) | skip
 rename_i kt et ss ag f hd hb;split at h<;>first | (cases h;done) | skip
 rename_i ki ei hki hei;split at h<;>first | (cases h;done) | skip
 rename_i ss' g hks hz
 cases hc:(DR ss ss'&&(ag==ei.agg)) with
 | false=>rw [hc] at h;cases h
 | true=>
  rw [hc] at h;simp only [Bool.and_eq_true,beq_iff_eq] at hc;obtain ⟨rfl,hpl⟩:=DS hc.1
  have hag:=hc.2
  have hu:=(hC.tt t ti hti).und
  rw [hd] at hu
  have huk:=(hC.tt kt ki hki).und
  rw [hks] at huk;obtain ⟨B,K,hE,es,ck,hB,hM⟩:=hH.cell b _ hb;simp only [Sv.den,Sc.den,hE,Option.map_some,Option.some.injEq] at hx;subst hx
  have ek:=NO hl hk
  subst ek;obtain ⟨i,z,i1,i2,i3,i4,i5,i6,i7,i8⟩:=(hC.tt et ei hei).inf
  rcases findNow_spec (d := .string) (k := .string ⟨l.toArray⟩) trivial es.toList 0 (fun x hx=>H2 (hM.keys x hx)) with ⟨h1,h2⟩ | ⟨j,e,h1,h2,h3⟩
  ·have hf:f l=none:=by
    cases hf:f l with
    | none=>rfl
    | some ds=>
     obtain ⟨x,hx1,hx2⟩:=hM.any l ds hf;exact absurd hx2 (h2 x hx1)
   rw [hf] at h
   have hzl:=lN hz (i5 η E)
   have hcd:aQ η E (qD (mgt none g) 0 ss)=some z.cells.toList:=yE (z:=E.z) (by have:=bC (i5 η E);omega) fun j hj=>by
    obtain ⟨q1,q2⟩:=hzl.2 j (by omega)
    rw [Nat.zero_add];exact ⟨hpl j hj,q1,q2⟩
   refine ⟨_,H3 (v:=z) h hcd ?_,?_⟩
   ·cases ag with
    | true=>show z=_;rw [i7 hag.symm];simp [Value.cells]
    | false=>show _=[z];have:=(i8 hag.symm).1;rw [this]
   ·cases ok<;>simp [Instr.lookup,run_underlying hu,Go.MapKept.run_getObj_map hB,Go.MapKept.run_checkKey huk (show IsKey .string (.string ⟨l.toArray⟩) from trivial),Go.MapKept.run_findKey huk h1,zeroValue,typeInfo,i1,i4,iT]
  ·obtain ⟨ds,hf,vs,hv,hvl,hvs⟩:=hM.all e (List.mem_of_getElem? h2) l h3;rw [hf] at h
   have hcd:aQ η E (qD (mgt (some ds) g) 0 ss)=some vs:=yE (z:=fun _ _=>none) hvl fun j hj=>by
    rw [Nat.zero_add];exact hvs j hj
   refine ⟨_,H3 (v:=e.val) h hcd hv,?_⟩
   cases ok<;>simp [Instr.lookup,run_underlying hu,Go.MapKept.run_getObj_map hB,Go.MapKept.run_checkKey huk (show IsKey .string (.string ⟨l.toArray⟩) from trivial),Go.MapKept.run_findKey huk h1,iT]
def tZ (f:List UInt8->Option (List FD)) (l:List UInt8) (ds:List FD):List UInt8->Option (List FD):=fun k=>if k=l then some ds else f k
def J5:Sv->Bool
 | .agg _=>true
 | _=>false
def acV (C:Cx)(hp:T Blk)(lo:Nat)(t:TypeId)(m k v:Sv):Option (Nat × Blk):=
 match m,aaC k,tV v,C.tt.get t with
 | .one (.map (some b)),some l,some cs,some ti=>match ti.d,hp.get b with
  | .map kt _,some (.map ss ag f)=>match C.tt.get kt,qC cs with
   | some ki,some (ss',ds)=>match ki.d with
    | .string=>bif Nat.ble lo b&&(DR ss ss'&&(ag==J5 v)) then some (b,.map ss ag (tZ f l ds)) else none
    | _=>none
   | _,_=>none
  | _,_=>none
 | _,_,_,_=>none
theorem NP {η:Env} {E:Emb} {v:Sv} {cs:List Sc} {u:Value} (h:tV v=some cs) (hv:v.den η E=some u) : ∃ vs,aQ η E cs=some vs/\AgV (J5 v) u vs:=by
 cases v with
 | one c=>
  cases h
  refine ⟨[u],?_,rfl⟩
  have hv:c.den η E=some u:=hv
  simp [aQ,hv]
 | agg l=>
  cases h
  simp only [Sv.den,Option.map_eq_some_iff] at hv;obtain ⟨vs,h1,h2⟩:=hv;exact ⟨vs,h1,h2.symm⟩
 | tup l=>cases h
 | undef=>cases h
theorem XQ {C:Cx} {P:Program} {η:Env} {E:Emb} (hC:C.Ok P η) {hp:T Blk} {nx lo base:Nat} {w w0:World} (hH:aF η E hp nx lo base w) (hB:Below base w0 w) {t:TypeId} {m k v:Sv} {vm vk vv:Value} {r:Nat × Blk} (h:acV C hp lo t m k v=some r)
  (hm:m.den η E=some vm) (hk:k.den η E=some vk) (hv:v.den η E=some vv) : ∃ w',(Instr.mapUpdate t vm vk vv).run P w = .ok () w'/\aF η E (hp.set r.1 (some r.2)) nx lo base w'/\Below base w0 w':=by
 unfold acV at h;split at h<;>first | (cases h;done) | skip
 rename_i b l cs ti hl hcs hti;split at h<;>first | (cases h;done) | skip
 rename_i kt et ss ag f hd hb;split at h<;>first | (cases h;done) | skip
 rename_i ki ss' ds hki hz;split at h<;>first | (cases h;done) | skip
 rename_i hks
 cases hc:(Nat.ble lo b&&(DR ss ss'&&(ag==J5 v))) with
 | false=>rw [hc] at h;cases h
 | true=>
  rw [hc] at h
  cases h
  simp only [Bool.and_eq_true,beq_iff_eq] at hc;obtain ⟨hlo,hp1,rfl⟩:=hc;obtain ⟨rfl,hpl⟩:=DS hp1
  have hlo:=Nat.le_of_ble_eq_true hlo
  have hu:=(hC.tt t ti hti).und
  rw [hd] at hu
  have huk:=(hC.tt kt ki hki).und
  rw [hks] at huk;obtain ⟨B,K,hE,es,ck,hBl,hM⟩:=hH.cell b _ hb;simp only [Sv.den,Sc.den,hE,Option.map_some,Option.some.injEq] at hm;subst hm
  have ek:=NO hl hk
  subst ek;obtain ⟨vs,hvs,hag⟩:=NP hcs hv
  have hzl:=lN hz hvs
  have hval:abi ss (J5 v) ds vv:=⟨vs,hag,by have:=bC hvs;omega,fun j hj=>by
   obtain ⟨q1,u,q2,q3⟩:=hzl.2 j (by omega)
   exact ⟨hpl j hj,q1,u,q2,q3.plain (hpl j hj) q1⟩⟩
  have hkey:IsKey .string (.string ⟨l.toArray⟩):=trivial
  have hbw : ∀ o:Obj,Below base w0 { w with heap:=w.heap.setIfInBounds B o }:=fun o=>by
   refine hB.trans ⟨rfl,rfl,rfl,by simp,fun i hi => ?_⟩
   have:=hH.hi b B K hlo hE
   exact (heap_set hBl).2 i (by omega)
  have hinj : ∀ k:List UInt8,(Value.string ⟨k.toArray⟩=Value.string ⟨l.toArray⟩)->k=l:=fun k e=>by
   injection e with e
   injection e with e
   simpa using e
  rcases findNow_spec hkey es.toList 0 (fun x hx=>H2 (hM.keys x hx)) with ⟨h1,h2⟩ | ⟨j,e,h1,h2,h3⟩
  ·refine ⟨{ w with heap:=w.heap.setIfInBounds B (.map (es.push ⟨.string ⟨l.toArray⟩,vv,ck⟩) (ck+1)) },?_,?_,hbw _⟩
   ·simp [Instr.mapUpdate,run_underlying hu,Go.MapKept.run_getObj_map hBl,Go.MapKept.run_checkKey huk hkey,Go.MapKept.run_findKey huk h1,Go.MapKept.run_setObj_map _ hBl]
   ·refine hH.write hb hE (by simp) (fun i hi=>(heap_set hBl).2 i hi) ⟨_,_,(heap_set hBl).1,?_,?_,?_,?_⟩
    ·intro x hx;simp only [Array.toList_push,List.mem_append,List.mem_singleton] at hx
     rcases hx with hx | rfl
     ·exact hM.keys x hx
     ·trivial
    ·intro x hx k hxk;simp only [Array.toList_push,List.mem_append,List.mem_singleton] at hx
     rcases hx with hx | rfl
     ·have hne : ¬ k=l:=fun e=>h2 x hx (by rw [hxk,e])
      obtain ⟨ds',q1,q2⟩:=hM.all x hx k hxk;exact ⟨ds',by rw [tZ,if_neg hne];exact q1,q2⟩
     ·obtain rfl:=hinj k hxk.symm;exact ⟨ds,by rw [tZ,if_pos rfl],hval⟩
    ·intro k ds' hf;simp only [Array.toList_push,List.mem_append,List.mem_singleton]
     by_cases e:k=l
     ·subst e;exact ⟨_,.inr rfl,rfl⟩
     ·rw [tZ,if_neg e] at hf;obtain ⟨x,q1,q2⟩:=hM.any k ds' hf;exact ⟨x,.inl q1,q2⟩
    ·rw [Array.toList_push,List.pairwise_append];exact ⟨hM.dist,by simp,fun x hx y hy=>by
      rw [List.mem_singleton] at hy;subst hy;exact h2 x hx⟩
  ·have hj:es[j]? = some e:=by simpa using h2
   refine ⟨{ w with heap:=w.heap.setIfInBounds B (.map (es.modify j fun e=>{ e with key := .string ⟨l.toArray⟩,val:=vv }) ck) },?_,?_,hbw _⟩
   ·simp [Instr.mapUpdate,run_underlying hu,Go.MapKept.run_getObj_map hBl,Go.MapKept.run_checkKey huk hkey,Go.MapKept.run_findKey huk h1,hj,h3,Go.MapKept.run_keyThatStays hkey,Go.MapKept.run_setObj_map _ hBl]
   ·have hk' : ∀ e',es[j]? = some e'->({ e' with key := .string ⟨l.toArray⟩,val:=vv }:MapEntry).key=e'.key:=fun e' he'=>by rw [hj] at he';cases he';exact h3.symm
    have hkeys:=modify_keys (es:=es) j (fun e=>{ e with key := .string ⟨l.toArray⟩,val:=vv }) hk'
    have hget : ∀ i x,(es.modify j fun e=>{ e with key := .string ⟨l.toArray⟩,val:=vv }).toList[i]? = some x->(i=j/\x.val=vv/\x.key = .string ⟨l.toArray⟩)∨(i≠j/\es.toList[i]? = some x):=fun i x hi=>by
     rw [Array.getElem?_toList,Array.getElem?_modify] at hi
     by_cases e1:j=i
     ·subst e1;rw [if_pos rfl,hj] at hi
      cases hi
      exact .inl ⟨rfl,rfl,rfl⟩
     ·rw [if_neg e1] at hi;exact .inr ⟨Ne.symm e1,by rw [Array.getElem?_toList];exact hi⟩
    have hlk : ∀ i x,es.toList[i]? = some x->i≠j->x.key ≠ .string ⟨l.toArray⟩:=fun i x hi hne hx=>by
     have hp:=List.pairwise_iff_getElem.1 hM.dist
     obtain ⟨hi1,hi2⟩:=List.getElem?_eq_some_iff.1 hi;obtain ⟨hj1,hj2⟩:=List.getElem?_eq_some_iff.1 h2
     rcases Nat.lt_or_gt_of_ne hne with hlt | hlt
     ·have:=hp i j hi1 hj1 hlt
      rw [hi2,hj2] at this;exact this (hx.trans h3.symm)
     ·have:=hp j i hj1 hi1 hlt
      rw [hi2,hj2] at this;exact this (h3.trans hx.symm)
    refine hH.write hb hE (by simp) (fun i hi=>(heap_set hBl).2 i hi) ⟨_,_,(heap_set hBl).1,?_,?_,?_,?_⟩
    ·intro x hx;obtain ⟨i,hi⟩:=List.mem_iff_getElem?.1 hx
     rcases hget i x hi with ⟨_,_,q⟩ | ⟨_,q⟩
     ·rw [q];trivial
     ·exact hM.keys x (List.mem_of_getElem? q)
    ·intro x hx k hxk;obtain ⟨i,hi⟩:=List.mem_iff_getElem?.1 hx
     rcases hget i x hi with ⟨_,q1,q2⟩ | ⟨q0,q⟩
     ·obtain rfl:=hinj k (hxk.symm.trans q2);exact ⟨ds,by rw [tZ,if_pos rfl],by rw [q1];exact hval⟩
     ·have hne : ¬ k=l:=fun e=>hlk i x q q0 (by rw [hxk,e])
      obtain ⟨ds',p1,p2⟩:=hM.all x (List.mem_of_getElem? q) k hxk;exact ⟨ds',by rw [tZ,if_neg hne];exact p1,p2⟩
    ·intro k ds' hf
     have hex : ∃ y∈es.toList,y.key = .string ⟨k.toArray⟩:=by
      by_cases e1:k=l
      ·subst e1;exact ⟨e,List.mem_of_getElem? h2,h3⟩
      ·rw [tZ,if_neg e1] at hf;exact hM.any k ds' hf
     obtain ⟨y,hy1,hy2⟩:=hex
     have:(Value.string ⟨k.toArray⟩)∈(es.modify j fun e=>{ e with key := .string ⟨l.toArray⟩,val:=vv }).toList.map (·.key):=by
      rw [hkeys,←hy2];exact List.mem_map_of_mem hy1
     obtain ⟨x,hx1,hx2⟩:=List.mem_map.1 this;exact ⟨x,hx1,hx2⟩
    ·have h1:(es.toList.map (·.key)).Pairwise (· ≠ ·):=List.pairwise_map.2 hM.dist
     rw [←hkeys] at h1;exact List.pairwise_map.1 h1
end
end Go.Ex
