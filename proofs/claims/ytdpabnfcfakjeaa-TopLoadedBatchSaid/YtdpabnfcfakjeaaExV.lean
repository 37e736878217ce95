/-
 What is to be shown of a function with loops, made by the executor itself.
-/
import Derived.Test.YtdpabnfcfakjeaaExUa
import Derived.Test.YtdpabnfcfakjeaaExF
namespace Go.Ex
open Go Go.RowKit
noncomputable section
structure Alt where
 ι:Type
 G:ι->Prop
 μ:ι->Nat
 tl:ι->List (Nat × Sv)
 bl:ι->List (Nat × Blk)
 nx:Nat
def Alt.st (A:Alt)(lo:Nat)(x:A.ι):St:=⟨T.ofList (A.tl x),T.ofList (A.bl x),A.nx,lo,[]⟩
def Alt.fits0 (A:Alt)(rm:Nat->Nat)(n0:Nat)(st:St)(x:A.ι):Prop:=
 ((N2 (IC n0 st (A.tl x) (A.bl x)) n0 A.nx st.lo&&(AP 65535 (A.tl x)&&AP 65535 (A.bl x)&&Nat.ble n0 A.nx&&Nat.ble A.nx 65000&&Nat.ble st.lo A.nx))=true/\KF rm (IC n0 st (A.tl x) (A.bl x)) A.nx st.tm (A.tl x))/\d8 rm (IC n0 st (A.tl x) (A.bl x)) A.nx st.hp (A.bl x)
def Alt.fits (A:Alt)(n0:Nat)(st:St)(x:A.ι):Prop:=
 match abl (A.tl x) st.tm||ael (IC n0 st (A.tl x) (A.bl x)) st.hp (A.bl x) with
 | false=>A.fits0 id n0 st x
 | true=>(acQ (A.tl x) st/\aem n0 st.lo (NH (A.tl x) (J2 (A.tl x) st).tm++NI (IC n0 (J2 (A.tl x) st) (A.tl x) (A.bl x)) (J2 (A.tl x) st).hp (A.bl x))=true)/\A.fits0 (XB (NH (A.tl x) (J2 (A.tl x) st).tm++NI (IC n0 (J2 (A.tl x) st) (A.tl x) (A.bl x)) (J2 (A.tl x) st).hp (A.bl x))) n0 (J2 (A.tl x) st) x
theorem Alt.fits0_sub {A:Alt} {rm:Nat->Nat} {η:Env} {n0:Nat} {st:St} {x:A.ι} (h:A.fits0 rm n0 st x) (hr1 : ∀ k,k<n0->rm k=k) (hr2 : ∀ k,st.lo<=k->st.lo<=rm k):Sub η n0 (A.st st.lo x) st:=by
 obtain ⟨⟨h1,h2⟩,h3⟩:=h;simp only [Bool.and_eq_true] at h1;exact Sub.ofT _ _ _ h1.1 (by simp only [Bool.and_eq_true];exact h1.2) h2 h3 hr1 (fun k hk _=>hr2 k hk)
theorem Alt.fits_sub {A:Alt} {η:Env} {n0:Nat} {st:St} {x:A.ι} (h:A.fits n0 st x):Sub η n0 (A.st st.lo x) st:=by
 unfold Alt.fits at h;split at h
 ·exact Alt.fits0_sub h (fun _ _=>rfl) (fun _ h=>h)
 ·obtain ⟨⟨h1,h2⟩,h3⟩:=h
  have hs:=NG (η:=η) (n0:=n0) h1
  have hlo:=hs.lo
  obtain ⟨r1,r2⟩:=XC h2
  have:=Alt.fits0_sub (η:=η) h3 r1 (by rw [hlo];exact r2)
  rw [hlo] at this;exact this.trans hs
def lR (n0:Nat)(st:St)(m:Option Nat):List Alt->Prop
 | []=>False
 | [A] => ∃ x,(A.G x/\(match m with | some k=>A.μ x<k | none=>True))/\A.fits n0 st x
 | A::l=>(∃ x,(A.G x/\(match m with | some k=>A.μ x<k | none=>True))/\A.fits n0 st x)∨lR n0 st m l
theorem oY {n0:Nat} {st:St} {m:Option Nat} : ∀ {l:List Alt},lR n0 st m l -> ∃ A∈l,∃ x:A.ι,(A.G x/\(match m with | some k=>A.μ x<k | none=>True))/\A.fits n0 st x
 | [],h=>h.elim
 | [A],h=>⟨A,List.mem_cons_self ..,h⟩
 | A::B::l,h=>by
  rcases h with h | h
  ·exact ⟨A,List.mem_cons_self ..,h⟩
  ·obtain ⟨C,hC,h⟩:=oY (l:=B::l) h;exact ⟨C,List.mem_cons_of_mem _ hC,h⟩
def aaQ (p:Alt->Prop):List Alt->Prop
 | []=>True
 | [A]=>p A
 | A::l=>p A/\aaQ p l
theorem D8 {p:Alt->Prop} : ∀ {l:List Alt},aaQ p l -> ∀ A∈l,p A
 | [],_,_,h=>by cases h
 | [A],h,B,hB=>by
  cases hB with
  | head=>exact h
  | tail _ hB=>cases hB
 | A::C::l,h,B,hB=>by
  cases hB with
  | head=>exact h.1
  | tail _ hB=>exact D8 (l:=C::l) h.2 B hB
def aB.sat {α:Type} (η:Env) (Q:α->Prop):aB α->Prop
 | .leaf a=>Q a
 | .fork (.tm b) t f=>(b=true->t.sat η Q)/\(b=false->f.sat η Q)
 | .fork a t f=>(a.den η=true->t.sat η Q)/\(a.den η=false->f.sat η Q)
 | .fail=>False
theorem aB.sat_at {α:Type} {η:Env} {Q:α->Prop} : ∀ {t:aB α},t.sat η Q -> ∃ a,t.at_ η=some a/\Q a
 | .leaf a,h=>⟨a,rfl,h⟩
 | .fork a t f,h=>by
  have h:(a.den η=true->t.sat η Q)/\(a.den η=false->f.sat η Q):=by
   cases a<;>exact h
  cases ha:a.den η with
  | true=>
   obtain ⟨x,h1,h2⟩:=aB.sat_at (h.1 ha);exact ⟨x,by simp only [aB.at_,ha,if_true];exact h1,h2⟩
  | false=>
   obtain ⟨x,h1,h2⟩:=aB.sat_at (h.2 ha);exact ⟨x,by simp only [aB.at_,ha];exact h1,h2⟩
 | .fail,h=>h.elim
def D9 {α:Type}:Nat->List α->List Nat
 | _,[]=>[]
 | i,_::l=>i::D9 (i+1) l
def TN (ops:List Oper)(dn:List Nat)(i:Nat):Bool := !m6 dn i&&(match nth ops i with
 | some o=>(cN o).all (m6 dn)
 | none=>false)
def ac3:List Nat->(Nat->Prop)->Prop
 | [],_=>True
 | [i],p=>p i
 | i::l,p=>p i/\ac3 l p
def N7:Op->Bool
 | .assign _=>true
 | .extract _ _=>true
 | o=>CW o
def EB (ops:List Oper)(n:Nat)(dn:List Nat):List Nat->Option (Nat × Oper)
 | []=>none
 | i::l=>match nth ops i with
  | some o=>bif N7 o.op&&(oK o&&aH (HM ops i o dn) n) then some (i,o) else EB ops n dn l
  | none=>EB ops n dn l
def IG (C:Cx) (ih:FI->List Sv->St->aB (Sv × St)) (nt:Nat) (ops:List Oper) (η:Env):Nat->List Nat->St->(St->Prop)->Prop
 | 0,dn,st,K=>match (D9 0 ops).filter (TN ops dn) with
  | []=>K st
  | _=>False
 | n+1,dn,st,K=>match (D9 0 ops).filter (TN ops dn) with
  | []=>K st
  | l=>match EB ops (fJ ops) dn l with
   | some (i,o)=>((qop C .nil st.tm st.pc o.op).bind fun r=>gP nt o.dst r.1 { st with pc:=r.2 }).sat η fun st'=>IG C ih nt ops η n (i::dn) st' K
   | none=>ac3 l fun i=>match nth ops i with
    | some o=>(JE C ih nt ops o st).sat η fun st'=>IG C ih nt ops η n (i::dn) st' K
    | none=>False
def abn (n:Nat)(o:Oper):Bool:=gT o.op&&(cN o).all fun k=>Nat.blt k n
def aev (o:Oper):Bool:=
 match o.guard,o.op with
 | none,.call c=>match c.callee with
  | .builtin .append=>true
  | _=>false
 | _,_=>false
def aew (C:Cx)(ops:List Oper):Bool:=
 match WJ C ops with
 | some n => !(Nat.beq n (fJ ops)&&ops.any WM)
 | none=>false
def ae9 (C:Cx)(ops:List Oper):Bool:=Nat.ble 1 (fJ (ops.filter aev)) && !(bif abN C ops then (match HN ops (tN (tM 0 ops []) 0 ops) (tM 0 ops []) (tN (tM 0 ops []) 0 ops) with
 | some l=>aew C l
 | none=>false) else aew C ops)
def v6 (C:Cx) (ih:FI->List Sv->St->aB (Sv × St)) (nt:Nat) (ops:List Oper) (η:Env) (st:St) (K:St->Prop):Prop:=
 match ops.all (abn (fJ ops))&&Nat.ble (fJ (tM 0 ops [])) (fJ ops) with
 | true=>(pV C nt ops (fJ ops) (tM 0 ops []) [] st).sat η fun st1=>IG C ih nt ops η (fJ ops-fJ (tM 0 ops [])) (tM 0 ops []) st1 K
 | false=>False
theorem IH {α:Type} : ∀ (l:List α) (k i:Nat),i∈D9 k l↔k<=i/\i<k+l.length
 | [],k,i=>by simp [D9]
 | _::l,k,i=>by
  simp only [D9,List.mem_cons,IH l (k+1) i,List.length_cons];omega
theorem N8 : ∀ {l:List Nat} {p:Nat->Prop},ac3 l p -> ∀ i∈l,p i
 | [],_,_,i,hi=>by cases hi
 | [j],p,h,i,hi=>by
  cases hi with
  | head=>exact h
  | tail _ hi=>cases hi
 | j::k::l,p,h,i,hi=>by
  cases hi with
  | head=>exact h.1
  | tail _ hi=>exact N8 (l:=k::l) h.2 i hi
theorem nQ {ops:Array Oper} {dn:List Nat} {q:Array Bool} (haf : ∀ (j:Nat) (o:Oper),ops[j]? = some o -> ∀ k∈cN o,k<ops.size) (H:q.size=ops.size) (d : ∀ j,j<ops.size->(q.getD j true=true↔j∈dn)) (i:Nat):
  i∈(D9 0 ops.toList).filter (TN ops.toList dn)↔i∈Region.ready .any ops q:=by
 rw [List.mem_filter,IH,mem_ready];simp only [TN,cD,Array.getElem?_toList,Bool.and_eq_true,Bool.not_eq_true',Nat.zero_le,true_and,Nat.zero_add,Array.length_toList];refine ⟨fun ⟨h1,h2,h3⟩ => ?_,fun ⟨h1,o,h2,h3⟩ => ?_⟩
 ·have h2:=fQ.1 h2
  refine ⟨?_,?_⟩
  ·cases hc:q.getD i true with
   | false=>rfl
   | true=>exact absurd ((d i h1).1 hc) h2
  ·split at h3
   ·rename_i o ho;refine ⟨o,ho,fun e he hb => ?_⟩
    have hm:=lH.1 (List.all_eq_true.1 h3 e.on (cF.2 ⟨e,he,hb,rfl⟩))
    have hlt:=haf i o ho e.on (cF.2 ⟨e,he,hb,rfl⟩)
    have:=(d e.on hlt).2 hm
    have hes:e.on<q.size:=by omega
    simp [hes] at this ⊢;exact this
   ·cases h3
 ·have hlt:=(Array.getElem?_eq_some_iff.1 h2).1
  refine ⟨hlt,?_,?_⟩
  ·refine fQ.2 fun hm => ?_
   rw [(d i hlt).2 hm] at h1;cases h1
  ·rw [h2];refine List.all_eq_true.2 fun k hk => ?_
   have hk':=haf i o h2 k hk
   obtain ⟨e,he,hb,rfl⟩:=cF.1 hk;refine lH.2 ((d e.on hk').1 ?_)
   have:=h3 e he hb
   have hes:e.on<q.size:=by omega
   simp [hes] at this ⊢;exact this
theorem VM {C:Cx} {P:Program} {η:Env} {E:Emb} (hC:C.Ok P η) {hp tm:T _} {a:Act} {pc pc':PC} {o:Oper} {sv:Sv} (hp0:N7 o.op=true) (hx : ∀ x∈o.op.operands,nI η E tm a x) (h:(qop C hp tm pc o.op).at_ η=some (sv,pc')):
  pc'=pc /\ ∃ v,sv.den η E=some v/\sW P o v a:=by
 obtain ⟨dst,op,type,pos,after,guard⟩:=o;simp only at hx h hp0;unfold N7 at hp0;split at hp0
 ·rename_i x;simp only [qop] at h;obtain ⟨h1,rfl⟩:=cR h;exact ⟨rfl,_,hx x (by simp [Op.operands]) _ h1,fun _=>rfl⟩
 ·rename_i x i;simp only [qop] at h;split at h
  ·rename_i s hs;obtain ⟨h1,rfl⟩:=cR h;obtain ⟨v,h2,h3⟩:=vO (P:=P) h1 (hx x (by simp [Op.operands]) _ hs)
   exact ⟨rfl,v,h2,fun w=>dE (h3 w)⟩
  ·cases h
 ·exact C1 (o:=⟨dst,op,type,pos,after,guard⟩) hC hp0 hx h
theorem qH {ops:List Oper} {n:Nat} {dn:List Nat} {i:Nat} {o:Oper} : ∀ {l:List Nat},EB ops n dn l=some (i,o)->i∈l/\nth ops i=some o/\N7 o.op=true/\oK o=true/\aH (HM ops i o dn) n=true
 | [],h=>by cases h
 | k::l,h=>by
  simp only [EB] at h;split at h
  ·rename_i o' ho
   cases hb:(N7 o'.op&&(oK o'&&aH (HM ops k o' dn) n)) with
   | true=>
    rw [hb] at h;cases h;simp only [Bool.and_eq_true] at hb;exact ⟨List.mem_cons_self ..,ho,hb.1,hb.2.1,hb.2.2⟩
   | false=>
    rw [hb] at h;obtain ⟨h1,h2⟩:=qH (l:=l) h;exact ⟨List.mem_cons_of_mem _ h1,h2⟩
  ·obtain ⟨h1,h2⟩:=qH (l:=l) h;exact ⟨List.mem_cons_of_mem _ h1,h2⟩
theorem EC {C:Cx} {P:Program} {η:Env} (hC:C.Ok P η) {ih:FI->List Sv->St->aB (Sv × St)} (hih:eO P η ih) {nt:Nat} {ops:Array Oper} (hpl : ∀ (j:Nat) (o:Oper),ops[j]? = some o->gT o.op=true) (haf : ∀ (j:Nat) (o:Oper),ops[j]? = some o -> ∀ k∈cN o,k<ops.size) {ro:Option Nat} {m:Nat} {K:St->Prop} {base:Nat} {w0:World} {Q:Exit->Act->World->Prop} (hQ : ∀ c a w,¬ Q (.panic c) a w):
  ∀ (f:Nat) (dn:List Nat) (st:St) (q:Array Bool) (E:Emb) (a:Act) (w:World),IG C ih nt ops.toList η f dn st K->cP η E nt base w0 st a w->q.size=ops.size->(∀ j,j<ops.size->(q.getD j true=true↔j∈dn))->
   (∀ st',K st' -> ∀ E' a' w',aJ E E' st.nx->st.nx<=st'.nx->st'.lo=st.lo->cP η E' nt base w0 st' a' w'->Q .normal a' w')->wpAnyIn (FW ro) m P .any ops Q f q a w
 | 0,dn,st,q,E,a,w,h,hS,H,d,hK=>by
  unfold IG at h;split at h
  ·rename_i hf;refine ⟨?_,hK st h E a w (aJ.refl _ _) (Nat.le_refl _) rfl hS⟩
   cases hr:Region.ready .any ops q with
   | nil=>rfl
   | cons i l=>
    have:i∈Region.ready .any ops q:=by rw [hr];exact List.mem_cons_self ..
    rw [←nQ haf H d i,hf] at this
    cases this
  ·exact h.elim
 | f+1,dn,st,q,E,a,w,h,hS,H,d,hK=>by
  unfold IG at h;split at h
  ·rename_i hf;refine ⟨fun _=>hK st h E a w (aJ.refl _ _) (Nat.le_refl _) rfl hS,fun i hi => ?_⟩
   rw [←nQ haf H d i,hf] at hi
   cases hi
  ·rename_i hne;split at h
   ·rename_i i o hfp;obtain ⟨p1,p2,p3,p4,p5⟩:=qH hfp
    have hi:=(nQ haf H d i).1 p1
    rw [cD,Array.getElem?_toList] at p2
    have hlt:=(Array.getElem?_eq_some_iff.1 p2).1
    obtain ⟨st1,h1,h2⟩:=aB.sat_at h;obtain ⟨⟨sv,pc⟩,h3,h4⟩:=aB.at_bind h1;obtain ⟨rfl,v,hv,hy⟩:=VM (P:=P) hC p3 (fun x _=>hS.fr.orel x) h3
    obtain ⟨hS1,n1,n2,_,_⟩:=cU h4 (hS.of_pc hS.pc) hv
    have hg:o.guard=none:=by
     unfold oK at p4;split at p4
     ·assumption
     ·cases p4
    refine HR p2 hpl hg hQ _ q a w (fun j oj hj hji hju hno => ?_) hi hy ?_
    ·have hjs:=(Array.getElem?_eq_some_iff.1 hj).1
     have hls:fJ ops.toList=ops.size:=by rw [iO];simp
     rw [hls] at p5
     have:=bG p5 j hjs
     simp only [HM,Bool.or_eq_true] at this
     rcases this with h | h | h | h
     ·rw [(d j hjs).2 (lH.1 h)] at hju;cases hju
     ·exact absurd (Nat.eq_of_beq_eq_true h) hji
     ·obtain ⟨o',ho',e,he,hb,hon⟩:=Region.waitsFor_spec (iC h)
      have:o'=oj:=Option.some.inj (ho'.symm.trans hj)
      subst this;exact absurd (cF.2 ⟨e,he,hb,hon⟩) hno
     ·rw [cD,Array.getElem?_toList,hj] at h;exact AE h
    ·refine EC hC hih hpl haf hQ f (i::dn) st1 _ E _ w h2 hS1 (by simp [H]) (fun j hj => ?_) fun st' hk E'' a'' w'' hA' hn' hlo' hS'=>hK st' hk E'' a'' w'' (by rw [←n1];exact hA') (by rw [←n1];exact hn') (hlo'.trans n2) hS'
     by_cases hij:i=j
     ·subst hij;simp [H,hj]
     ·rw [getD_set_ne true hij,d j hj,List.mem_cons];exact ⟨.inr,fun h=>h.resolve_left (Ne.symm hij)⟩
   refine ⟨fun hr => ?_,fun i hi => ?_⟩
   ·exfalso;refine hne (List.eq_nil_iff_forall_not_mem.2 fun i hi => ?_)
    rw [nQ haf H d i,hr] at hi
    cases hi
   ·have h1:=N8 h i ((nQ haf H d i).2 hi)
    obtain ⟨_,o,ho,_⟩:=mem_ready.1 hi
    have hlt:=(Array.getElem?_eq_some_iff.1 ho).1
    rw [cD,Array.getElem?_toList,ho] at h1;simp only at h1;obtain ⟨st1,h2,h3⟩:=aB.sat_at h1;refine tJ (ro:=ro) (m:=m) hC hih ho h2 hS Q _ fun E' a' w' hA hn hlo hS1 => ?_
    refine EC hC hih hpl haf hQ f (i::dn) st1 _ E' a' w' h3 hS1 (by simp [H]) (fun j hj => ?_) fun st' hk E'' a'' w'' hA' hn' hlo' hS'=>hK st' hk E'' a'' w'' (hA.trans hA' hn) (Nat.le_trans hn hn') (hlo'.trans hlo) hS'
    by_cases hij:i=j
    ·subst hij;simp [H,hj]
    ·rw [getD_set_ne true hij,d j hj,List.mem_cons];exact ⟨.inr,fun h=>h.resolve_left (Ne.symm hij)⟩
theorem X2 {C:Cx} {P:Program} {η:Env} (hC:C.Ok P η) {ih:FI->List Sv->St->aB (Sv × St)} (hih:eO P η ih) {nt:Nat} {ops:Array Oper} {ro:Option Nat} {m id:Nat} {K:St->Prop} {base:Nat} {w0:World} {Q:Exit->Act->World->Prop} {st:St} (h:v6 C ih nt ops.toList η st K) {E:Emb} {a:Act} {w:World} (hS:cP η E nt base w0 st a w)
  (hK : ∀ st',K st' -> ∀ E' a' w',aJ E E' st.nx->st.nx<=st'.nx->st'.lo=st.lo->cP η E' nt base w0 st' a' w'->Q .normal a' w'):(Code.region id ops true).wpIn (FW ro) m P Q a w:=by
 have hS1:cP η E nt base w0 st a w.drew:=⟨hS.fr,hS.sz,hS.nt,hS.df,hS.hr.drew,hS.bl.drew,hS.lo,hS.pc⟩
 unfold v6 at h;split at h
 ·rename_i hg;simp only [Bool.and_eq_true] at hg;obtain ⟨g1,g2⟩:=hg
  have g2:=Nat.le_of_ble_eq_true g2
  have H:fJ ops.toList=ops.size:=by rw [iO];simp
  rw [H] at h g1 g2;rw [iO] at h g2
  have hall : ∀ (j:Nat) (o:Oper),ops[j]? = some o->gT o.op=true /\ ∀ k∈cN o,k<ops.size:=fun j o ho=>by
   have hm:o∈ops.toList:=by
    rw [←Array.getElem?_toList] at ho;exact List.mem_of_getElem? ho
   have:=List.all_eq_true.1 g1 o hm
   simp only [abn,Bool.and_eq_true] at this;exact ⟨this.1,fun k hk=>Nat.le_of_ble_eq_true (List.all_eq_true.1 this.2 k hk)⟩
  obtain ⟨st1,h1,h2⟩:=aB.sat_at h;refine wpIn_mono (Q:=fun x a w=>x = .normal/\Q x a w) (wpIn_region_any hC.mixed ?_) fun _ _ _ h=>h.2
  have key:=xY (ro:=ro) (m:=m) (Q:=fun x a w=>x = .normal/\Q x a w) hC (fun j o ho=>(hall j o ho).1) (fun j o ho=>(hall j o ho).2) (fun c a w h=>by cases h.1) (tM 0 ops.toList []) [] st st1 (Array.replicate ops.size false) a (ops.size-(tM 0 ops.toList []).length) h1 hS1 (by simp) (fun j hj=>by simp [hj]) (fun a' listed' e1 e2 hS2 hsz' d => ?_)
  ·rw [Nat.sub_add_cancel g2] at key;exact key
  ·exact EC hC hih (fun j o ho=>(hall j o ho).1) (fun j o ho=>(hall j o ho).2) (fun c a w h=>by cases h.1) _ _ st1 listed' E a' _ h2 hS2 hsz' (fun j hj=>by rw [d j hj];simp) fun st' hk E' a2 w2 hA hn hlo hS3=>⟨rfl,hK st' hk E' a2 w2 (by rw [←e1];exact hA) (by rw [←e1];exact hn) (hlo.trans e2) hS3⟩
 ·exact h.elim
def s9:Code->Nat
 | .region id _ _=>id
 | .seq a _=>s9 a
 | .cond _ a _=>s9 a
 | .block id _=>id
 | .loop c=>s9 c
 | _=>0
def brc (η:Env)(b:Bx)(pc:PC)(k:Bool->PC->Prop):Prop:=
 match b with
 | .lit x=>k x pc
 | .at_ false (.tm b)=>(b=true->k true pc)/\(b=false->k false pc)
 | .at_ true (.tm b)=>(b=false->k true pc)/\(b=true->k false pc)
 | b=>(b.den η=true->k true pc)/\(b.den η=false->k false pc)
theorem aaR {η:Env} {b:Bx} {pc:PC} {k:Bool->PC->Prop} (h:brc η b pc k):k (b.den η) pc:=by
 have gen : ∀ {b:Bx} , ((b.den η=true->k true pc)/\(b.den η=false->k false pc))->k (b.den η) pc:=by
  intro b h
  cases hb:b.den η with
  | true=>exact h.1 hb
  | false=>exact h.2 hb
 unfold brc at h;split at h
 ·exact h
 ·refine gen ?_
  simpa [Bx.den,fK.den] using h
 ·rename_i b;refine gen ?_
  cases b<;>simpa [Bx.den,fK.den] using h
 ·exact gen h
inductive VN (k:Nat) (st:St):Prop
def aex {α:Type}:Option α->Prop
 | some _=>True
 | none=>False
theorem KI {α:Type} {o:Option α} (h:aex o) : ∃ a,o=some a:=by
 cases o with
 | none=>exact h.elim
 | some a=>exact ⟨a,rfl⟩
structure N9 where
 κ:Type
 R:κ->vZ
structure bT where
 κ:Type
 A:κ->List Alt
def aW (f:Nat->List Alt):Nat->bT:=fun i=>⟨Nat,fun _=>f i⟩
variable {P:Program}
def vcK (C:Cx)(dr:lD)(fc nt:Nat)(η:Env)(inv:Nat->bT)(u:Nat->Option N9):Nat->Bool->Nat->List It->St->(Xt->St->Prop)->Prop
 | 0,_,_,_,_,_=>False
 | _+1,_,_,[],st,Ψ=>Ψ .normal st
 | n+1,top,n0,.blk _::k,st,Ψ=>vcK C dr fc nt η inv u n top n0 k st Ψ
 | n+1,top,n0,.code c::k,st,Ψ=>match c with
  | .skip=>vcK C dr fc nt η inv u n top n0 k st Ψ
  | .ret=>Ψ .ret st
  | .exit id=>match vW id k with
   | some k'=>vcK C dr fc nt η inv u n top n0 k' st Ψ
   | none=>Ψ (.exit id) st
  | .seq a b=>vcK C dr fc nt η inv u n top n0 (.code a :: .code b::k) st Ψ
  | .cond c a b=>match evX st.tm c with
   | some (.one (.bool bx))=>brc η bx st.pc fun t pc=>vcK C dr fc nt η inv u n top n0 (.code (bif t then a else b)::k) { st with pc:=pc,tm:=abH c t st.tm } Ψ
   | _=>False
  | .block id c=>vcK C dr fc nt η inv u n top n0 (.code c :: .blk id::k) st Ψ
  | .loop c => ∃ z:(inv (s9 c)).κ,lR n0 st none ((inv (s9 c)).A z)/\aaQ (fun A => ∀ x,A.G x->vcK C dr fc nt η inv u n top n0 [.code c] (A.st st.lo x) fun xt st'=>match xt with
    | .normal=>lR n0 st' (some (A.μ x)) ((inv (s9 c)).A z)
    | .ret=>Ψ .ret st'
    | .exit id=>match vW id k with
     | some k'=>vcK C dr fc nt η inv u n top n0 k' st' Ψ
     | none=>Ψ (.exit id) st') ((inv (s9 c)).A z)
  | .region _ ops false=>(xX C (l9 C dr fc) nt ops.toList ops.toList st).sat η fun st=>vcK C dr fc nt η inv u n top n0 k st Ψ
  | .region id ops true=>match ae9 C ops.toList with
   | true => ∃ z:(inv (1000+id)).κ,v6 C (l9 C dr fc) nt ops.toList η st (fun st'=>lR n0 st' none ((inv (1000+id)).A z))/\aaQ (fun A => ∀ x,A.G x->vcK C dr fc nt η inv u n top n0 k (A.st st.lo x) Ψ) ((inv (1000+id)).A z)
   | false=>(dr (l9 C dr fc) nt ops.toList st).sat η fun st=>vcK C dr fc nt η inv u n top n0 k st Ψ
  | .rangeFunc g ps assign body=>match top,u (s9 body+1000*st.nx),evX st.tm g with
   | true,some F,some (.one (.fn f caps)) => ∃ z:F.κ,
    (((((Nat.beq f (F.R z).gf&&(Nat.beq ps.size (F.R z).np&&(ps.toList.all (fun p=>Nat.blt p nt)&&(Nat.ble st.lo (F.R z).nx&&(Nat.ble n0 (F.R z).nx&&caps.all (fun a=>Nat.blt a.1 st.nx))))))=true)/\(∀ pre,KG (T.ofList ((F.R z).bl pre)) caps (F.R z).nums))/\((F.R z).G []/\(F.R z).fits st.nx st.lo st.hp []))/\
     (∀ x,aex (oW nt assign (N6 ps.toList ((F.R z).args x) st.tm)))/\
     (∀ pre x,(F.R z).G pre->pre.length<(F.R z).xs.length->match oW nt assign (N6 ps.toList ((F.R z).args x) st.tm) with
      | some tm=>vcK C dr fc nt η inv u n false st.nx [.code body] ((F.R z).st tm st.lo pre) (D7 (F.R z) st.nx st.lo (pre++[x]))
      | none=>False))/\
    (((F.R z).G (F.R z).xs->vcK C dr fc nt η inv u n top n0 k ((F.R z).st st.tm st.lo (F.R z).xs) Ψ)/\
     (∀ pre,pre <+: (F.R z).xs->(F.R z).Gx pre->vcK C dr fc nt η inv u n top n0 (.code (.exit (F.R z).xid)::k) ((F.R z).st st.tm st.lo pre) Ψ))
   | _,_,_=>VN (s9 body) st
  | _=>False
theorem uD {C:Cx} {η:Env} {dr:lD} (hC:C.Ok P η) (hD:JF P η dr) {fc nt:Nat} {inv:Nat->bT} {u:Nat->Option N9} (hrin : ∀ i F,u i=some F -> ∀ z,(F.R z).Ok P η) : ∀ (n:Nat) (top:Bool) (ro:Option Nat),(top=true->ro=none) -> ∀ (n0:Nat) (k:List It) (st:St) (Ψ:Xt->St->Prop),vcK C dr fc nt η inv u n top n0 k st Ψ->dH P η nt n0 ro st k Ψ
 | 0,_,_,_,_,_,_,_,h=>h.elim
 | n+1,top,ro,htop,n0,[],st,Ψ,h=>by
  intro m E base w0 a w Q hm hS hn hQ;rw [vX];exact hQ .normal st E a w h (iE.refl _ _) hn rfl hS
 | n+1,top,ro,htop,n0,.blk _::k,st,Ψ,h=>by
  intro m E base w0 a w Q hm hS hn hQ;rw [TJ];exact uD hC hD hrin n top ro htop n0 k st Ψ h m E base w0 a w Q hm hS hn hQ
 | n+1,top,ro,htop,n0,.code c::k,st,Ψ,h=>by
  have ih0:=uD hC hD (fc:=fc) (nt:=nt) (inv:=inv) hrin n
  have ih:=ih0 top ro htop n0
  have hcall:eO P η (l9 C dr fc):=CR hC (JG hC hD fc)
  intro m E base w0 a w Q hm hS hn hQ;simp only [vcK] at h;split at h
  ·rw [dA];exact wpIn_skip (ih k st Ψ h m E base w0 a w Q hm hS hn hQ)
  ·rw [dA];refine wpIn_ret ?_;rw [b9 (by simp)]
   exact sC (by simp) (hQ .ret st E a w h (iE.refl _ _) hn rfl hS)
  ·rename_i id;rw [dA];refine wpIn_exit ?_;rw [b9 (by simp)]
   split at h
   ·rename_i k' hk;exact BL hk (ih k' st Ψ h m E base w0 a w Q hm hS hn hQ)
   ·rename_i hk;exact BM hk (hQ (.exit id) st E a w h (iE.refl _ _) hn rfl hS)
  ·rename_i x y
   have:=ih (.code x :: .code y::k) st Ψ h m E base w0 a w Q hm hS hn hQ
   rw [dA] at this ⊢;refine wpIn_seq (wpIn_mono this fun e a w he => ?_)
   cases e with
   | normal=>rw [eJ,dA] at he;exact he
   | _=>rw [b9 (by simp),sB] at he;exact (by rw [←b9 (k:=k) (by simp)] at he;exact he)
  ·rename_i c x y;split at h
   ·rename_i bx hb
    have h1:=aaR h
    have ec:=hS.fr.orel c _ hb
    simp only [Sv.den,Sc.den,Option.some.injEq] at ec
    have:=ih _ _ Ψ h1 m E base w0 a w Q hm ((hS.of_pc hS.pc).of_litO hb) hn hQ
    rw [dA] at this ⊢;refine wpIn_cond ec.symm ?_
    cases hbx:bx.den η<;>simpa [hbx] using this
   ·exact h.elim
  ·rename_i id c
   have:=ih (.code c :: .blk id::k) st Ψ h m E base w0 a w Q hm hS hn hQ
   rw [dA] at this ⊢;refine wpIn_block (wpIn_mono this fun e a w he => ?_)
   cases e with
   | normal=>rw [eJ,TJ] at he;exact he
   | exit i=>
    rw [b9 (by simp)] at he
    simp only [Exit.inBlock]
    by_cases hid:i=id
    ·subst hid;rw [H8] at he;simp only [if_true];exact he
    ·rw [nO (fun e=>by injection e with e;exact hid e)] at he
     simp only [hid,if_false];rw [b9 (by simp)]
     exact he
   | _=>
    rw [b9 (by simp),nO (by simp)] at he
    exact he
  ·rename_i c;obtain ⟨z,h1,h2⟩:=h;obtain ⟨A,hA,x,⟨hG,_⟩,hf⟩:=oY h1
   let I:(Σ A:{ A:Alt // A∈(inv (s9 c)).A z },{ x:A.1.ι // A.1.G x })->St:=fun s=>s.1.1.st st.lo s.2.1
   have hloop:=dH.loop (P:=P) (η:=η) (nt:=nt) (n0:=n0) (ro:=ro) (c:=c) (k:=k) (Φ:=Ψ) I (fun s=>s.1.1.μ s.2.1) (fun s=>by
    obtain ⟨⟨B,hB⟩,⟨y,hy⟩⟩:=s
    have hr:=D8 h2 B hB y hy
    refine (ih _ _ _ hr).mono' fun xt st' hlo hΦ => ?_
    cases xt with
    | normal=>
     obtain ⟨D,hD,zz,⟨hz,hμ⟩,hfz⟩:=oY hΦ
     have hlo:st'.lo=st.lo:=hlo
     refine ⟨⟨⟨D,hD⟩,⟨zz,hz⟩⟩,hμ,?_⟩
     have:=Alt.fits_sub (η:=η) hfz
     rw [hlo] at this;exact this
    | ret=>exact hΦ
    | exit id=>
     simp only [yG];simp only at hΦ;split at hΦ
     ·rename_i k' hk;rw [hk];exact ih k' st' Ψ hΦ
     ·rename_i hk;rw [hk];exact hΦ) ⟨⟨A,hA⟩,⟨x,hG⟩⟩
   exact dH.sub (Alt.fits_sub hf) hloop m E base w0 a w Q hm hS hn hQ
  ·rename_i ops;obtain ⟨st1,h1,h2⟩:=aB.sat_at h;rw [dA];refine wpIn_region ?_
   have:=tK (ro:=ro) (m:=m) hC hcall (dS ro m P Q k) ops.toList 0 st st1 (fun j=>by simp) h1 E base w0 a w hS (fun E' a' w' hA hn' hlo hS'=>ih k st1 Ψ h2 m E' base w0 a' w' Q hm hS' (Nat.le_trans hn hn') fun x st' E'' a'' w'' hΦ hA' hn'' hlo' hS''=>hQ x st' E'' a'' w'' hΦ ((hA.less hn).comes.trans hA' (Nat.le_refl _)) hn'' (hlo'.trans hlo) hS'')
   rw [List.range_eq_range']
   simpa using this
  ·rename_i id ops;split at h
   ·rw [dA];obtain ⟨z,h1,h3⟩:=h;refine X2 hC hcall h1 hS fun st1 h2 E' a' w' hA hn' hlo hS' => ?_
    obtain ⟨A,hA1,x,⟨hG,_⟩,hf⟩:=oY h2
    have hr:=ih k (A.st st.lo x) Ψ (D8 h3 A hA1 x hG)
    rw [←hlo] at hr;exact dH.sub (Alt.fits_sub hf) hr m E' base w0 a' w' Q hm hS' (Nat.le_trans hn hn') fun x st' E'' a'' w'' hΦ hA' hn'' hlo' hS''=>hQ x st' E'' a'' w'' hΦ ((hA.less hn).comes.trans hA' (Nat.le_refl _)) hn'' (hlo'.trans hlo) hS''
   obtain ⟨st1,h1,h2⟩:=aB.sat_at h;rw [dA];exact hD _ hcall nt ops st st1 h1 E base w0 a w hS (dS ro m P Q k) _ (fun E' a' w' hA hn' hlo hS'=>ih k st1 Ψ h2 m E' base w0 a' w' Q hm hS' (Nat.le_trans hn hn') fun x st' E'' a'' w'' hΦ hA' hn'' hlo' hS''=>hQ x st' E'' a'' w'' hΦ ((hA.less hn).comes.trans hA' (Nat.le_refl _)) hn'' (hlo'.trans hlo) hS'') ro m
  ·rename_i g ps assign body;split at h
   ·rename_i F f caps hRi hg;obtain ⟨z,⟨⟨⟨h1,h2⟩,h3⟩,h4,h5⟩,h6,h7⟩:=h;simp only [Bool.and_eq_true] at h1;obtain ⟨a1,a2,a3,a4,a5,a6⟩:=h1
    have a1:=Nat.eq_of_beq_eq_true a1
    subst a1
    have hro:=htop rfl
    subst hro;refine dH.rangeF (F.R z) (hrin _ F hRi z) hg ⟨⟨Nat.eq_of_beq_eq_true a2,a3⟩,Nat.le_of_ble_eq_true a4,Nat.le_of_ble_eq_true a5⟩ h2 a6 h3 (fun x=>(KI (h4 x)).choose) (fun x=>(KI (h4 x)).choose_spec) (fun l pre x hG hlen => ?_) (fun hG=>ih _ _ _ (h6 hG)) (fun pre hp hG=>ih _ _ _ (h7 pre hp hG)) m E base w0 a w Q hm hS hn hQ
    have:=h5 pre x hG hlen
    rw [(KI (h4 x)).choose_spec] at this;exact ih0 false (some l) (fun e=>by cases e) st.nx _ _ _ this
   ·cases h
  ·exact h.elim
end
end Go.Ex
