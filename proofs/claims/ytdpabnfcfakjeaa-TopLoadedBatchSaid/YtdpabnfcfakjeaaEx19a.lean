/-
 That the executor of regions that draw their order is right: the head.
-/
import Derived.Test.YtdpabnfcfakjeaaEx17a
namespace Go.Ex
open Go Go.RowKit
open Nat (le_of_ble_eq_true)
noncomputable section
variable {ro:Option Nat} {m:Nat}
theorem cF {o:Oper} {j:Nat}:j∈cN o ↔ ∃ e∈o.after,Region.binds .any e=true/\e.on=j:=by
 simp [cN,List.mem_map,List.mem_filter,and_assoc]
def tQ (ops:Array Oper)(L:Nat->Prop):Prop := ∀ i o,L i->ops[i]? = some o -> ∀ j∈cN o,L j
theorem JO {ops:Array Oper} {L:Nat->Prop} (hL:tQ ops L) : ∀ (f:Nat) (fr acc:List Nat),(∀ j∈fr,L j)->(∀ j∈acc,L j) -> ∀ k∈clo ops.toList f fr acc,L k
 | 0,_,acc,_,ha,k,hk=>ha k hk
 | _+1,[],acc,_,ha,k,hk=>ha k hk
 | f+1,j::fr,acc,hf,ha,k,hk=>by
  simp only [clo] at hk
  have hf' : ∀ m∈fr,L m:=fun m hm=>hf m (List.mem_cons_of_mem _ hm)
  cases hc:(acc.any fun k=>Nat.beq k j) with
  | true=>rw [hc] at hk;exact JO hL f fr acc hf' ha k hk
  | false=>
   rw [hc] at hk;simp only [cond_false] at hk;split at hk
   ·rename_i o ho;rw [cD,Array.getElem?_toList] at ho
    have hj:=hf j (List.mem_cons_self ..)
    refine JO hL f (cN o++fr) (j::acc) (fun m hm => ?_) (fun m hm => ?_) k hk
    ·rcases List.mem_append.1 hm with hm | hm
     ·exact hL j o hj ho m hm
     ·exact hf' m hm
    ·cases hm with
     | head=>exact hj
     | tail _ hm=>exact ha m hm
   ·exact JO hL f fr acc hf' ha k hk
theorem nG {ops:Array Oper} {L:Nat->Prop} (hL:tQ ops L) {o:Oper} (hj : ∀ j∈cN o,L j) : ∀ k∈iM ops.toList o,L k:=by
 intro k hk;unfold iM at hk
 cases ha:(lE ops.toList||vK ops.toList) with
 | true=>rw [ha] at hk;exact JO hL 4000 _ [] hj (fun _ h=>by cases h) k hk
 | false=>rw [ha] at hk;cases hk
theorem mB {ops:List Oper} : ∀ {l:List Nat} {k:Nat},k∈lF ops l->k∈l
 | [],k,h=>by cases h
 | j::l,k,h=>by
  simp only [lF] at h;split at h
  ·rename_i o _
   cases ha:vI o with
   | true=>
    rw [ha] at h
    cases h with
    | head=>exact List.mem_cons_self ..
    | tail _ h=>exact List.mem_cons_of_mem _ (mB h)
   | false=>rw [ha] at h;exact List.mem_cons_of_mem _ (mB h)
  ·exact List.mem_cons_of_mem _ (mB h)
theorem CY {bk:T Blk} {nx:Nat} : ∀ {l:List Nat} {bl},CS bk nx l=some bl -> ∀ p∈bl,∃ k∈l,∃ b,bk.get k=some b/\p=(nx+k,b)
 | [],bl,h,p,hp=>by cases h;cases hp
 | k::l,bl,h,p,hp=>by
  simp only [CS] at h;split at h
  ·rename_i b m h1 h2
   cases h
   cases hp with
   | head=>exact ⟨k,List.mem_cons_self ..,b,h1,rfl⟩
   | tail _ hp=>obtain ⟨k',hk',r⟩:=CY h2 p hp;exact ⟨k',List.mem_cons_of_mem _ hk',r⟩
  ·cases h
structure bP where
 v:Nat->Option Sv
 b:Nat->Option Blk
 w:Nat->Option (Nat × Blk)
structure Inv (η:Env) (ops:Array Oper) (E0:Emb) (M top lo base nt:Nat) (w0:World) (af:T Sv) (hp0:T Blk) (V:bP) (L:Nat->Prop) (E:Emb) (a:Act) (w:World):Prop where
 ag:aJ E0 E M
 old : ∀ t s,af.get t=some s->(∀ i o,L i->ops[i]? = some o->o.dst≠some t) -> ∃ v,a.tmps[t]? = some v/\s.den η E=some v
 rc : ∀ i o d,L i->ops[i]? = some o->o.dst=some d -> ∃ s v,V.v i=some s/\a.tmps[d]? = some v/\s.den η E=some v
 hp : ∃ hp,(∀ i b,hp0.get i=some b->(∀ k c,L k->V.w k≠some (i,c))->hp.get i=some b)/\(∀ i b,L i->V.b i=some b->(∀ k c,L k->V.w k≠some (M+i,c))->hp.get (M+i)=some b)/\
  (∀ k x c,L k->V.w k=some (x,c)->hp.get x=some c)/\aF η E hp top lo base w
 fresh : ∀ j,¬ L j->M+j<top->E (M+j)=none /\ ∀ k,E.r (M+j) k=none
 sz:a.tmps.size=nt
 df:a.defers=E0.dl.l
 bl:Below base w0 w
def StB (C:Cx)(tm:T Sv)(hp:T Blk)(lo:Nat)(t:TypeId)(x v:Operand)(r:Nat × Blk):Prop:=
 xS C tm hp lo t x v=some r∨gK C tm hp lo t x v=some (true,r)
theorem StB.of {C:Cx} {tm:T Sv} {hp:T Blk} {lo:Nat} {t:TypeId} {x v:Operand} {r:Option Bool × Nat × Blk} (h:stB C tm hp lo t x v=some r) (hc : ∀ b,r.1=some b->b=true):StB C tm hp lo t x v r.2:=by
 unfold stB at h;split at h
 ·rename_i q hq
  cases h;exact .inl hq
 ·split at h
  ·rename_i q hq
   cases h
   have:=hc _ rfl
   exact .inr (by rw [hq,←this])
  ·cases h
theorem sV {C:Cx} {tm:T Sv} {hp hp':T Blk} {lo:Nat} {t:TypeId} {x v:Operand} {r:Bool × Nat × Blk} (hs : ∀ i b,hp.get i=some b->hp'.get i=some b) (h:gK C tm hp lo t x v=some r):gK C tm hp' lo t x v=some r /\ ∃ b,hp.get r.2.1=some b:=by
 unfold gK at h;split at h
 ·rename_i b sz i j c ti h1 h2 h3;split at h
  ·rename_i s d e cs n f h4 h5
   have h6:=hs _ _ h5
   cases hc:(Nat.ble lo b&&(Nat.beq ti.size 1&&(Nat.beq sz cs.length&&(Nat.blt j cs.length&&shB (jW cs j) s)))) with
   | false=>rw [hc] at h;cases h
   | true=>
    have e:r=(Nat.blt i n,b,.row e cs n (lP f i j d)):=by rw [hc] at h;cases h;rfl
    subst e;refine ⟨?_,_,h5⟩;unfold gK;simp only [h1,h2,h3,h4,h6,hc,cond_true]
  ·cases h
 ·cases h
theorem aaj {C:Cx} {tm:T Sv} {hp:T Blk} {lo:Nat} {t:TypeId} {x v:Operand} {r:Nat × Blk} (h:StB C tm hp lo t x v r) : ∃ b,hp.get r.1=some b:=by
 rcases h with h | h
 ·exact PZ h
 ·exact (sV (fun _ _ h=>h) h).2
theorem aak {C:Cx} {P:Program} {η:Env} {E:Emb} (hC:C.Ok P η) {hp O:T Blk} {nx lo base:Nat} {w w0:World} (hH:aF η E hp nx lo base w) (hB:Below base w0 w) {tm:T Sv} {a:Act} {o:Oper} {t:TypeId} {x v:Operand} (ho:o.op = .store t x v)
  (hx : ∀ x∈o.op.operands,nI η E tm a x) (hs : ∀ i b,O.get i=some b->hp.get i=some b) {r:Nat × Blk} (h:StB C tm O lo t x v r):
  ∃ w',(execOp a.eval o).run P w = .ok .skip w'/\aF η E (hp.set r.1 (some r.2)) nx lo base w'/\Below base w0 w':=by
 rcases h with h | h
 ·exact CF hC hH hB ho hx (PY hs h)
 ·exact s8 hC hH hB ho hx (sV hs h).1 rfl
theorem WN {C:Cx} {P:Program} {η:Env} (hC:C.Ok P η) {ih:FI->List Sv->St->aB (Sv × St)} (ac:eO P η ih) {f:FuncId} {fi:FI} {args:List Sv} {st:St} {r:Sv × St} (h:(aag C ih f fi args st).at_ η=some r) (hF:FI.Ok P f fi) (ae:st.pc.holds η) (hlo:st.lo<=st.nx):
  ∀ E base w0 w vs,aF η E st.hp st.nx st.lo base w->Below base w0 w->aD η E args=some vs->
   Calls P f vs.toArray w fun e w' => ∃ v E',e = .returned v/\r.1.den η E'=some v/\aJ E E' st.nx/\aF η E' r.2.hp r.2.nx st.lo base w'/\Below base w0 w'/\r.2.pc.holds η/\st.nx<=r.2.nx:=by
 intro E base w0 w vs hH hB hv;unfold aag at h;split at h
 ·rename_i g hg;obtain ⟨r1,e1,e2⟩:=aB.at_bind h
  cases e2
  exact (hC.es f g hg _ _ _ _ _ _ e1 ae hlo E base w0 w vs hH hB hv).2
 ·exact ac fi args st r h f hF ae hlo E base w0 w vs hH hB hv
def G7 (ops:Array Oper)(n M:Nat)(hp0:T Blk)(V:bP)(i:Nat)(o:Oper)(hp:T Blk):Prop:=
 ∀ x b,hp.get x=some b->(∃ k∈iM ops.toList o,V.w k=some (x,b))∨
  ((hp0.get x=some b ∨ ∃ k∈iM ops.toList o,V.b k=some b/\x=M+k) /\ ∀ k ok c,k<n->ops[k]? = some ok->V.w k=some (x,c)->i∈iM ops.toList ok∨k=i)
structure UW (C:Cx) (η:Env) (ih:FI->List Sv->St->aB (Sv × St)) (ops:Array Oper) (n M top lo:Nat) (af:T Sv) (hp0:T Blk) (V:bP) (i:Nat) (o:Oper) (pc W:PC):Prop where
 says : ∃ tm O s,V.v i=some s/\
  (∀ t∈eX ops.toList o,∀ s,tm.get t=some s->(∃ k ok,k∈cN o/\ops[k]? = some ok/\ok.dst=some t/\V.v k=some s)∨(af.get t=some s /\ ∀ k ok,k<n->ops[k]? = some ok->ok.dst=some t->i∈cN ok∨k=i))/\
  ((∃ ar,o.guard=none/\aop C tm o.op=some ar/\(∀ b,ar.ck=some b->b=true)/\s=ar.sv (M+i)/\V.b i=some ar.blk/\V.w i=none/\W=pc)∨
   (G7 ops n M hp0 V i o O/\(SW C ih ops.toList o ⟨tm,O,top,lo,pc⟩).at_ η=some (s,W)/\V.b i=none/\V.w i=none)∨
   (∃ t x v r,G7 ops n M hp0 V i o O/\o.guard=none/\o.op = .store t x v/\StB C tm O lo t x v r/\s = .undef/\V.b i=none/\V.w i=some r/\W=pc /\ ∀ j y c,j<n->j≠i->V.w j=some (y,c)->y≠r.1)∨
   (∃ f g args r,G7 ops n M hp0 V i o O/\gOf C tm o=some (f,g,args)/\(tH g O top args pc).at_ η=some (r,W)/\s=kI (M+i) r/\V.b i=none/\V.w i=none)∨
   (∃ f fi args r blk,G7 ops n M hp0 V i o O/\lOf C tm o=some (f,fi,args)/\(aag C ih f fi args ⟨.nil,O,top,top,pc⟩).at_ η=some r/\JI r.2.hp top (M+i) r.1=some (blk,s)/\V.b i=some blk/\V.w i=none/\W=r.2.pc)∨
   (∃ r,G7 ops n M hp0 V i o O/\cOf C tm O lo o=some r/\s = .one (.int .i64 (.lit (.ofNat r.2.2)))/\V.b i=none/\V.w i=some (r.1,r.2.1)/\W=pc /\ ∀ j y c,j<n->j≠i->V.w j=some (y,c)->y≠r.1)∨
   (∃ j want d bx ab,o.guard=some (j,want)/\nE ops.toList j=some d/\tm.get d=some (.one (.bool bx))/\ab.holds η/\V.b i=none/\V.w i=none/\
    (((bx.den η==want)=true /\ ∃ f g args r,G7 ops n M hp0 V i o O/\gOf C tm { o with guard:=none }=some (f,g,args)/\(tH g O top args ab).at_ η=some (r,W)/\s=kI (M+i) r)∨((bx.den η==want)=false/\s = .undef/\W=ab))))
theorem MV {C:Cx} {P:Program} {η:Env} (hC:C.Ok P η) {ih:FI->List Sv->St->aB (Sv × St)} (ac:eO P η ih) {ops:Array Oper}
  {E0:Emb} {n M top lo base nt:Nat} {w0:World} {af:T Sv} {hp0:T Blk} {V:bP} {L:Nat->Prop} {E:Emb} {a:Act} {w:World} (hI:Inv η ops E0 M top lo base nt w0 af hp0 V L E a w)
  (hL:tQ ops L) (hLn : ∀ i,L i->i<n) (hn:n<=ops.size) {i:Nat} (ah : ¬ L i) (hit:M+i<top) {o:Oper} (ho:ops[i]? = some o) (haL : ∀ j∈cN o,L j)
  (Z : ∀ d,o.dst=some d -> ∀ j oj,L j->ops[j]? = some oj->oj.dst≠some d) (hd : ∀ d,o.dst=some d->d<nt) {pc W:PC} (ae:pc.holds η) (hw:UW C η ih ops n M top lo af hp0 V i o pc W):
  W.holds η /\ ∃ S:Act->World->Prop,(∃ a' w',S a' w')/\(∀ a' w',S a' w' -> ∃ E',Inv η ops E0 M top lo base nt w0 af hp0 V (fun j=>L j∨j=i) E' a' w')/\
   ∀ (Q:Exit->Act->World->Prop) (K:Act->World->Prop),(∀ a' w',S a' w'->K a' w')->wpOpIn (FW ro) m P ops Q i K a w:=by
 obtain ⟨ag,old,rc,⟨hp,hp1,hp2,hp3,hH⟩,fresh,sz,df,bl⟩:=hI;obtain ⟨tm,O,s,hVi,hslots,hsay⟩:=hw.says
 have hs : ∀ t∈eX ops.toList o,∀ s,tm.get t=some s -> ∃ v,a.tmps[t]? = some v/\s.den η E=some v:=by
  intro t ht s hts
  rcases hslots t ht s hts with ⟨k,ok,hk,hok,hdk,hVk⟩ | ⟨h0,hold⟩
  ·obtain ⟨s',v,e1,e2,e3⟩:=rc k ok t (haL k hk) hok hdk;rw [hVk] at e1;cases e1;exact ⟨v,e2,e3⟩
  ·refine old t s h0 fun k ok hLk hok hdk => ?_
   rcases hold k ok (hLn k hLk) hok hdk with h | h
   ·exact ah (hL k ok hLk hok i h)
   ·subst h;exact ah hLk
 have hsees:G7 ops n M hp0 V i o O -> ∀ x b,O.get x=some b->hp.get x=some b:=by
  intro hse x b hx
  rcases hse x b hx with ⟨k,hk,hw⟩ | ⟨hb,hno⟩
  ·exact hp3 k x b (nG hL haL k hk) hw
  ·have hno' : ∀ k c,L k->V.w k≠some (x,c):=fun k c hk hwk=>by
    have hkn:=hLn k hk
    have hks:k<ops.size:=by omega
    rcases hno k ops[k] c hkn (Array.getElem?_eq_getElem hks) hwk with h | h
    ·exact ah (nG hL (hL k _ hk (Array.getElem?_eq_getElem hks)) i h)
    ·subst h;exact ah hk
   rcases hb with hb | ⟨k,hk,hb,rfl⟩
   ·exact hp1 x b hb hno'
   ·exact hp2 k b (nG hL haL k hk) hb hno'
 have oldput : ∀ {E':Emb} v,E.le E' -> ∀ t s,af.get t=some s->(∀ k ok,(L k∨k=i)->ops[k]? = some ok->ok.dst≠some t) -> ∃ u,(a.put o.dst v).tmps[t]? = some u/\s.den η E'=some u:=by
  intro E' v hle t s hts hnot;obtain ⟨u,h1,h2⟩:=old t s hts fun k ok hk hok=>hnot k ok (.inl hk) hok
  refine ⟨u,?_,Sv.den_mono hle h2⟩
  cases hod:o.dst with
  | none=>exact h1
  | some d=>
   have:d≠t:=fun e=>by subst e;exact hnot i o (.inr rfl) ho hod
   simp [Act.put,Array.getElem?_setIfInBounds_ne this,h1]
 have rcput : ∀ {E':Emb} v,E.le E'->s.den η E'=some v -> ∀ j oj d,(L j∨j=i)->ops[j]? = some oj->oj.dst=some d -> ∃ s' u,V.v j=some s'/\(a.put o.dst v).tmps[d]? = some u/\s'.den η E'=some u:=by
  intro E' v hle hv j oj d hj ad hdj
  rcases hj with hj | rfl
  ·obtain ⟨s',u,e1,e2,e3⟩:=rc j oj d hj ad hdj;refine ⟨s',u,e1,?_,Sv.den_mono hle e3⟩
   cases hod:o.dst with
   | none=>exact e2
   | some e=>
    have:e≠d:=fun he=>by subst he;exact Z e hod j oj hj ad hdj
    simp [Act.put,Array.getElem?_setIfInBounds_ne this,e2]
  ·have:oj=o:=Option.some.inj (ad.symm.trans ho)
   subst this
   have hlt:d<a.tmps.size:=by rw [sz];exact hd d hdj
   exact ⟨s,v,hVi,by simp [Act.put,hdj,hlt],hv⟩
 have szput : ∀ v,(a.put o.dst v).tmps.size=nt:=fun v=>by
  cases o.dst with
  | none=>exact sz
  | some d=>simp [Act.put,sz]
 have dfput : ∀ v,(a.put o.dst v).defers=E0.dl.l:=fun v=>by
  cases o.dst with
  | none=>exact df
  | some d=>exact df
 have frput : ∀ j,¬ (L j∨j=i)->M+j<top->E (M+j)=none /\ ∀ k,E.r (M+j) k=none:=fun j hj hjt=>fresh j (fun h=>hj (.inl h)) hjt
 rcases hsay with ⟨ar,hg,har,hck,rfl,hVb,hVw,rfl⟩ | ⟨hse,hx,hVb,hVw⟩ | ⟨t,x,v,r,hse,hg,hop,hst,rfl,hVb,hVw,rfl,huq⟩ | ⟨f,g,args,r,hse,hgo,hx,rfl,hVb,hVw⟩ | ⟨f,fi,args,r,blk,hse,hgo,hx,how,hVb,hVw,rfl⟩ | ⟨r,hse,hco,rfl,hVb,hVw,rfl,huq⟩ | ⟨jg,want,dg,bx,ab,hg,hdg,hbx,hpc1,hVb,hVw,hcase⟩
 ·
  obtain ⟨obj,v,r1,r2⟩:=SQ hC (w:=w) (oL fun t ht=>hs t (iB _ _ t ht)) har hck
  have hEn:E (M+i)=none:=(fresh i ah hit).1
  obtain ⟨r3,r4⟩:=r2 (M+i) hEn
  have hle:=Emb.le_set (x:=(w.heap.size,ar.K)) hEn
  have hnone : ∀ b,hp.get (M+i)≠some b:=fun b h=>by obtain ⟨B,K,hE,_⟩:=hH.cell _ _ h;rw [hEn] at hE;cases hE
  have hkeep : ∀ k b,hp.get k=some b->(hp.set (M+i) (some ar.blk)).get k=some b:=fun k b h=>by
   rw [T.get_set_ne _ _ _ _ (fun e=>by subst e;exact hnone b h)];exact h
  have hH':=hH.alloc (o:=obj) (b:=ar.blk) (K:=ar.K) (n:=M+i) (m:=top) hEn hit (Nat.le_refl _) hH.lim hH.free r3 (SP har)
  have hwk : ∀ k x c,(L k∨k=i)->V.w k=some (x,c)->L k:=fun k x c hk h=>by
   rcases hk with hk | rfl
   ·exact hk
   ·rw [hVw] at h;cases h
  refine ⟨ae,fun a' w'=>a'=a.put o.dst v/\w'=w.alloc obj,⟨_,_,rfl,rfl⟩,?_,?_⟩
  ·rintro a' w' ⟨rfl,rfl⟩;refine ⟨E.set (M+i) (w.heap.size,ar.K),ag.trans ((aJ.set E (M+i) _).less (by omega)) (Nat.le_refl _),oldput v hle,rcput v hle r4,⟨hp.set (M+i) (some ar.blk),?_,?_,?_,hH'⟩,?_,szput v,dfput v,bl.alloc hH.bot _⟩
   ·exact fun k b h hno=>hkeep k b (hp1 k b h fun j c hj=>hno j c (.inl hj))
   ·intro j b hj hb hno
    rcases hj with hj | rfl
    ·exact hkeep _ _ (hp2 j b hj hb fun k c hk=>hno k c (.inl hk))
    ·rw [hVb] at hb;cases hb;exact T.get_set_same _ _ _ (by have:=hH.lim;omega)
   ·exact fun k x c hk h=>hkeep x c (hp3 k x c (hwk k x c hk h) h)
   ·intro j hj hjt;refine ⟨?_,(fresh j (fun h=>hj (.inl h)) hjt).2⟩
    rw [Emb.set_ne _ _ (by intro e;exact hj (.inr (by omega)))]
    exact (fresh j (fun h=>hj (.inl h)) hjt).1
  ·intro Q K hK;unfold wpOpIn;simp only [ho,Region.wanted,hg,if_true];exact fB r1 (hK _ _ ⟨rfl,rfl⟩)
 ·have hHi:aF η E O top lo base w:=hH.sub (hsees hse)
  obtain ⟨g1,v,g2,S,s1,s2,s3⟩:=UU (ro:=ro) (m:=m) hC ac (st:=⟨tm,O,top,lo,pc⟩) ae hx hHi hs ho;refine ⟨g1,fun a' w'=>a'=a.put o.dst v/\S w',?_,?_,?_⟩
  ·obtain ⟨w',hw'⟩:=s1;exact ⟨_,w',rfl,hw'⟩
  ·rintro a' w' ⟨rfl,hw'⟩
   have hb:=s2 w' hw'
   refine ⟨E,ag,oldput v (Emb.le.refl _),rcput v (Emb.le.refl _) g2,⟨hp,fun k b h hno=>hp1 k b h fun j c hj=>hno j c (.inl hj),?_,?_,hH.below hb⟩,frput,szput v,dfput v,bl.trans (hb.mono hH.bot)⟩
   ·intro j b hj hbj hno
    rcases hj with hj | rfl
    ·exact hp2 j b hj hbj fun k c hk=>hno k c (.inl hk)
    ·rw [hVb] at hbj;cases hbj
   ·intro k x c hk h
    rcases hk with hk | rfl
    ·exact hp3 k x c hk h
    ·rw [hVw] at h;cases h
  ·intro Q K hK;exact s3 Q K fun w' hw'=>hK _ _ ⟨rfl,hw'⟩
 ·
  obtain ⟨w',r1,r2,r3⟩:=aak hC hH bl hop (oL fun t ht=>hs t (iB _ _ t ht)) (hsees hse) hst
  obtain ⟨b0,hb0⟩:=aaj hst
  have hb0':=hsees hse _ _ hb0
  have hlt:r.1<65535:=by have:=hH.dom _ _ hb0';have:=hH.lim;omega
  refine ⟨ae,fun a' w''=>a'=a.put o.dst undef/\w''=w',⟨_,_,rfl,rfl⟩,?_,?_⟩
  ·rintro a' w'' ⟨rfl,rfl⟩;refine ⟨E,ag,oldput undef (Emb.le.refl _),rcput undef (Emb.le.refl _) rfl,⟨hp.set r.1 (some r.2),?_,?_,?_,r2⟩,frput,szput undef,dfput undef,r3⟩
   ·intro k b h hno
    have Z:r.1≠k:=fun e=>by subst e;exact hno i r.2 (.inr rfl) hVw
    rw [T.get_set_ne _ _ _ _ Z];exact hp1 k b h fun j c hj=>hno j c (.inl hj)
   ·intro j b hj hbj hno
    rcases hj with hj | rfl
    ·have Z:r.1≠M+j:=fun e=>hno i r.2 (.inr rfl) (by rw [hVw,←e])
     rw [T.get_set_ne _ _ _ _ Z];exact hp2 j b hj hbj fun k c hk=>hno k c (.inl hk)
    ·rw [hVb] at hbj;cases hbj
   ·intro k y c hk h
    rcases hk with hk | rfl
    ·have hki:k≠i:=fun e=>by subst e;exact ah hk
     have Z:=huq k y c (hLn k hk) hki h
     rw [T.get_set_ne _ _ _ _ (Ne.symm Z)];exact hp3 k y c hk h
    ·rw [hVw] at h
     cases h
     exact T.get_set_same _ _ _ hlt
  ·intro Q K hK;unfold wpOpIn;simp only [ho,Region.wanted,hg,if_true];exact pT r1 (hK _ _ ⟨rfl,rfl⟩)
 ·
  have hHi:aF η E O top lo base w:=hH.sub (hsees hse)
  obtain ⟨hg,hgs,vs,hvs,hexec⟩:=SZ (P:=P) hgo (oL fun t ht=>hs t (iB _ _ t ht))
  obtain ⟨g1,g2⟩:=tI hC hgs (top:=top) hx ae;obtain ⟨k1,k3⟩:=g2 E _ _ w vs hHi (hH.rfree _ (Nat.le_succ _)) hvs
  have k2:=k3 (M+i) (by omega) (fresh i ah hit).2
  refine ⟨g1,fun a' w' => ∃ v rr,a'=a.put o.dst v/\Below w.heap.size w w'/\(∀ j u,rr j=some u->pZ w.heap.size u)/\(kI (M+i) r).den η (addE E w w' rr (M+i))=some v,?_,?_,?_⟩
  ·obtain ⟨e,w',v,rr,_,hb,hnw,hd⟩:=Calls.exists k2;exact ⟨_,w',v,rr,rfl,hb,hnw,hd⟩
  ·rintro a' w' ⟨v,rr,rfl,hb,hnw,hsd⟩;obtain ⟨q1,q2⟩:=hH.addE (n:=M+i) (m:=top) (rr:=rr) hb hit (Nat.le_refl _) hH.lim (fresh i ah hit).2 hH.free hH.rfree hnw;refine ⟨addE E w w' rr (M+i),ag.trans ⟨fun _ _=>rfl,(fun k hk j=>by simp only [addE];rw [if_neg (by omega)]),q1.z,fun _ _ h=>h,rfl,fun _ _ _=>rfl⟩ (Nat.le_refl _),oldput v q1,rcput v q1 hsd,⟨hp,fun k b h hno=>hp1 k b h fun j c hj=>hno j c (.inl hj),?_,?_,q2⟩,?_,szput v,dfput v,bl.trans (hb.mono hH.bot)⟩
   ·intro j b hj hbj hno
    rcases hj with hj | rfl
    ·exact hp2 j b hj hbj fun k c hk=>hno k c (.inl hk)
    ·rw [hVb] at hbj;cases hbj
   ·intro k x c hk h
    rcases hk with hk | rfl
    ·exact hp3 k x c hk h
    ·rw [hVw] at h;cases h
   ·intro j hj hjt;refine ⟨(frput j hj hjt).1,fun k => ?_⟩
    simp only [addE];rw [if_neg (fun e=>hj (.inr (by omega)))]
    exact (frput j hj hjt).2 k
  ·intro Q K hK;unfold wpOpIn;simp only [ho,Region.wanted,hg,if_true];refine pU ((hexec w).trans k1) (k2.mono ?_);rintro e w' ⟨v,rr,rfl,hb,hnw,hd⟩;exact ⟨v,rfl,hK _ _ ⟨v,rr,rfl,hb,hnw,hd⟩⟩
 ·
  have hHi:aF η E O top lo base w:=hH.sub (hsees hse)
  obtain ⟨hg,hfi,vs,hvs,hexec⟩:=aah (P:=P) hgo (oL fun t ht=>hs t (iB _ _ t ht))
  have hF:=hC.ft f fi hfi
  have k2:=WN hC ac hx hF ae (Nat.le_refl _) E.z00 w.heap.size w w vs hHi.z00 (Below.refl _ _) (cJ E.le_z00 hvs)
  have hEn:E (M+i)=none:=(fresh i ah hit).1
  have hnone : ∀ b,hp.get (M+i)≠some b:=fun b h=>by obtain ⟨B,K,hE,_⟩:=hH.cell _ _ h;rw [hEn] at hE;cases hE
  have hkeep : ∀ k b,hp.get k=some b->(hp.set (M+i) (some blk)).get k=some b:=fun k b h=>by
   rw [T.get_set_ne _ _ _ _ (fun e=>by subst e;exact hnone b h)];exact h
  have hwk : ∀ k x c,(L k∨k=i)->V.w k=some (x,c)->L k:=fun k x c hk h=>by
   rcases hk with hk | rfl
   ·exact hk
   ·rw [hVw] at h;cases h
  obtain ⟨e0,w00,v0,E00,_,_,_,_,_,hpc0,_⟩:=Calls.exists k2;refine ⟨hpc0,fun a' w' => ∃ v E',a'=a.put o.dst v/\r.1.den η E'=some v/\aF η E' r.2.hp r.2.nx top w.heap.size w'/\Below w.heap.size w w',?_,?_,?_⟩
  ·obtain ⟨e,w',v,E',_,q1,_,q3,q4,_,_⟩:=Calls.exists k2;exact ⟨_,w',v,E',rfl,q1,q3,q4⟩
  ·rintro a' w' ⟨v,E',rfl,q1,q3,hb⟩;obtain ⟨B,K,hH',r4⟩:=JN hH hb how q3 hEn hit q1
   have hle:=Emb.le_set (x:=(B,K)) hEn
   refine ⟨E.set (M+i) (B,K),ag.trans ((aJ.set E (M+i) _).less (by omega)) (Nat.le_refl _),oldput v hle,rcput v hle r4,⟨hp.set (M+i) (some blk),?_,?_,?_,hH'⟩,?_,szput v,dfput v,bl.trans (hb.mono hH.bot)⟩
   ·exact fun k b h hno=>hkeep k b (hp1 k b h fun j c hj=>hno j c (.inl hj))
   ·intro j b hj hbj hno
    rcases hj with hj | rfl
    ·exact hkeep _ _ (hp2 j b hj hbj fun k c hk=>hno k c (.inl hk))
    ·rw [hVb] at hbj;cases hbj;exact T.get_set_same _ _ _ (by have:=hH.lim;omega)
   ·exact fun k x c hk h=>hkeep x c (hp3 k x c (hwk k x c hk h) h)
   ·intro j hj hjt;refine ⟨?_,(fresh j (fun h=>hj (.inl h)) hjt).2⟩
    rw [Emb.set_ne _ _ (by intro e;exact hj (.inr (by omega)))]
    exact (fresh j (fun h=>hj (.inl h)) hjt).1
  ·intro Q K hK;unfold wpOpIn;simp only [ho,Region.wanted,hg,if_true];refine pU ((hexec w).trans (bU hF _ w)) (k2.mono ?_);rintro e w' ⟨v,E',rfl,q1,_,q3,q4,_,_⟩;exact ⟨v,rfl,hK _ _ ⟨v,E',rfl,q1,q3,q4⟩⟩
 ·
  obtain ⟨hg,_,⟨b0,hb0⟩,w',r1,r2,r3⟩:=aai (P:=P) hC hH bl (hsees hse) hco (oL fun t ht=>hs t (iB _ _ t ht))
  have hb0':=hsees hse _ _ hb0
  have hlt:r.1<65535:=by have:=hH.dom _ _ hb0';have:=hH.lim;omega
  have hsd:(Sv.one (.int .i64 (.lit (.ofNat r.2.2)))).den η E=some (goInt r.2.2):=by simp [Sv.den,Sc.den,Ix.den,goInt]
  refine ⟨ae,fun a' w''=>a'=a.put o.dst (goInt r.2.2)/\w''=w',⟨_,_,rfl,rfl⟩,?_,?_⟩
  ·rintro a' w'' ⟨rfl,rfl⟩;refine ⟨E,ag,oldput _ (Emb.le.refl _),rcput _ (Emb.le.refl _) hsd,⟨hp.set r.1 (some r.2.1),?_,?_,?_,r2⟩,frput,szput _,dfput _,r3⟩
   ·intro k b h hno
    have Z:r.1≠k:=fun e=>by subst e;exact hno i r.2.1 (.inr rfl) hVw
    rw [T.get_set_ne _ _ _ _ Z];exact hp1 k b h fun j c hj=>hno j c (.inl hj)
   ·intro j b hj hbj hno
    rcases hj with hj | rfl
    ·have Z:r.1≠M+j:=fun e=>hno i r.2.1 (.inr rfl) (by rw [hVw,←e])
     rw [T.get_set_ne _ _ _ _ Z];exact hp2 j b hj hbj fun k c hk=>hno k c (.inl hk)
    ·rw [hVb] at hbj;cases hbj
   ·intro k y c hk h
    rcases hk with hk | rfl
    ·have hki:k≠i:=fun e=>by subst e;exact ah hk
     have Z:=huq k y c (hLn k hk) hki h
     rw [T.get_set_ne _ _ _ _ (Ne.symm Z)];exact hp3 k y c hk h
    ·rw [hVw] at h
     cases h
     exact T.get_set_same _ _ _ hlt
  ·intro Q K hK;unfold wpOpIn;simp only [ho,Region.wanted,hg,if_true];exact fB r1 (hK _ _ ⟨rfl,rfl⟩)
 ·
  obtain ⟨vg,hv1,hv2⟩:=hs dg (by unfold eX;rw [hg];simp only [hdg];exact List.mem_cons_self ..) _ hbx
  simp only [Sv.den,Sc.den,Option.some.injEq] at hv2;subst hv2
  have hy:yielded ops a.tmps jg=some (bx.den η):=by
   unfold nE at hdg;rw [cD,Array.getElem?_toList] at hdg;unfold yielded
   cases ad:ops[jg]? with
   | none=>rw [ad] at hdg;cases hdg
   | some oj=>
    rw [ad] at hdg;simp only at hdg;simp [hdg,hv1]
  have hwant:Region.wanted o (yielded ops a.tmps)=(bx.den η==want):=by
   simp only [Region.wanted,hg,hy];rfl
  rcases hcase with ⟨he,f,g,args,r,hse,hgo,hx,rfl⟩ | ⟨he,rfl,rfl⟩
  ·have hHi:aF η E O top lo base w:=hH.sub (hsees hse)
   obtain ⟨_,hgs,vs,hvs,hexec⟩:=SZ (P:=P) (o:={ o with guard:=none }) hgo (oL fun t ht=>hs t (iB _ _ t ht))
   have hexec : ∀ w,(execOp a.eval o).run P w=(callFunc f vs.toArray).run P w:=fun w=>hexec w
   obtain ⟨g1,g2⟩:=tI hC hgs (top:=top) hx hpc1;obtain ⟨k1,k3⟩:=g2 E _ _ w vs hHi (hH.rfree _ (Nat.le_succ _)) hvs
   have k2:=k3 (M+i) (by omega) (fresh i ah hit).2
   refine ⟨g1,fun a' w' => ∃ v rr,a'=a.put o.dst v/\Below w.heap.size w w'/\(∀ j u,rr j=some u->pZ w.heap.size u)/\(kI (M+i) r).den η (addE E w w' rr (M+i))=some v,?_,?_,?_⟩
   ·obtain ⟨e,w',v,rr,_,hb,hnw,hd⟩:=Calls.exists k2;exact ⟨_,w',v,rr,rfl,hb,hnw,hd⟩
   ·rintro a' w' ⟨v,rr,rfl,hb,hnw,hsd⟩;obtain ⟨q1,q2⟩:=hH.addE (n:=M+i) (m:=top) (rr:=rr) hb hit (Nat.le_refl _) hH.lim (fresh i ah hit).2 hH.free hH.rfree hnw;refine ⟨addE E w w' rr (M+i),ag.trans ⟨fun _ _=>rfl,(fun k hk j=>by simp only [addE];rw [if_neg (by omega)]),q1.z,fun _ _ h=>h,rfl,fun _ _ _=>rfl⟩ (Nat.le_refl _),oldput v q1,rcput v q1 hsd,⟨hp,fun k b h hno=>hp1 k b h fun j c hj=>hno j c (.inl hj),?_,?_,q2⟩,?_,szput v,dfput v,bl.trans (hb.mono hH.bot)⟩
    ·intro j b hj hbj hno
     rcases hj with hj | rfl
     ·exact hp2 j b hj hbj fun k c hk=>hno k c (.inl hk)
     ·rw [hVb] at hbj;cases hbj
    ·intro k x c hk h
     rcases hk with hk | rfl
     ·exact hp3 k x c hk h
     ·rw [hVw] at h;cases h
    ·intro j hj hjt;refine ⟨(frput j hj hjt).1,fun k => ?_⟩
     simp only [addE];rw [if_neg (fun e=>hj (.inr (by omega)))]
     exact (frput j hj hjt).2 k
   ·intro Q K hK;unfold wpOpIn;simp only [ho,hwant,he,if_true];refine pU ((hexec w).trans k1) (k2.mono ?_);rintro e w' ⟨v,rr,rfl,hb,hnw,hd⟩;exact ⟨v,rfl,hK _ _ ⟨v,rr,rfl,hb,hnw,hd⟩⟩
  ·refine ⟨hpc1,fun a' w'=>a'=a.put o.dst undef/\w'=w,⟨_,_,rfl,rfl⟩,?_,?_⟩
   ·rintro a' w' ⟨rfl,rfl⟩;refine ⟨E,ag,oldput _ (Emb.le.refl _),rcput _ (Emb.le.refl _) rfl,⟨hp,fun k b h hno=>hp1 k b h fun j c hj=>hno j c (.inl hj),?_,?_,hH⟩,frput,szput _,dfput _,bl⟩
    ·intro j b hj hbj hno
     rcases hj with hj | rfl
     ·exact hp2 j b hj hbj fun k c hk=>hno k c (.inl hk)
     ·rw [hVb] at hbj;cases hbj
    ·intro k x c hk h
     rcases hk with hk | rfl
     ·exact hp3 k x c hk h
     ·rw [hVw] at h;cases h
   ·intro Q K hK;unfold wpOpIn;simp only [ho,hwant,he,Bool.false_eq_true,if_false];exact ⟨fun _ _=>trivial,hK _ _ ⟨rfl,rfl⟩⟩
end
end Go.Ex
namespace Go.Ex
open Go Go.RowKit
open Nat (le_of_ble_eq_true)
noncomputable section
variable {ro:Option Nat} {m:Nat}
structure kV (ops:Array Oper) (n:Nat):Prop where
 uniq : ∀ i j oi oj d,i<n->j<n->ops[i]? = some oi->ops[j]? = some oj->oi.dst=some d->oj.dst=some d->i=j
 slot : ∀ i o t,i<n->ops[i]? = some o->t∈eX ops.toList o -> ∀ k ok,k<n->ops[k]? = some ok->ok.dst=some t->k∈cN o∨i∈cN ok∨k=i
 le:n<=ops.size
 ord:jM ops.toList n (HL n ops.toList) []=true
 all : ∀ i,i<n->i∈HL n ops.toList
 tail:n=ops.size∨(Region.sinkB .any ops n=true/\Region.chainB .any ops n=true/\n<ops.size /\ ∀ t o,n<=t->ops[t]? = some o -> ∀ j∈cN o,j<t)
theorem rW {l:List Nat} {i:Nat}:(l.any fun k=>Nat.beq k i)=true↔i∈l:=by
 rw [List.any_eq_true];exact ⟨fun ⟨k,hk,h⟩=>by rw [←Nat.eq_of_beq_eq_true h];exact hk,fun h=>⟨i,h,by simp⟩⟩
theorem kL {ops:Array Oper} {n i:Nat} {l J:List Nat} (h:jM ops.toList n (i::l) J=true):i<n/\i ∉ J/\(∃ o,ops[i]? = some o/\(∀ j∈cN o,j∈J)/\(jL o=true -> ∀ j∈J,j∈iM ops.toList o))/\jM ops.toList n l (i::J)=true:=by
 simp only [jM,Bool.and_eq_true] at h;obtain ⟨⟨⟨h1,h2⟩,h3⟩,h4⟩:=h;refine ⟨le_of_ble_eq_true h1,fun hm => ?_,?_,h4⟩
 ·have:=rW.2 hm
  rw [this] at h2;cases h2
 ·split at h3
  ·rename_i o ho;rw [cD,Array.getElem?_toList] at ho;simp only [Bool.and_eq_true,Bool.or_eq_true] at h3;refine ⟨o,ho,fun j hj=>rW.1 (List.all_eq_true.1 h3.1 j hj),fun hs j hj => ?_⟩
   rcases h3.2 with h | h
   ·rw [hs] at h;cases h
   ·exact rW.1 (List.all_eq_true.1 h j hj)
  ·cases h3
theorem HO {ops:Array Oper} {n:Nat} {S:Nat->Prop} : ∀ (l J:List Nat),jM ops.toList n l J=true->(∀ k∈J,S k)->(∃ i∈l,¬ S i) -> ∃ i o,i∈l /\ ¬ S i/\ops[i]? = some o /\ ∀ j∈cN o,S j
 | [],_,_,_,⟨i,hi,_⟩=>by cases hi
 | i::l,J,h,hS,⟨k,hk,hkS⟩=>by
  obtain ⟨_,_,⟨o,ho,ha,_⟩,h4⟩:=kL h
  by_cases hSi:S i
  ·have hk':k∈l:=by
    cases hk with
    | head=>exact absurd hSi hkS
    | tail _ hk=>exact hk
   obtain ⟨m,om,q1,q2,q3,q4⟩:=HO l (i::J) h4 (fun j hj=>by
    cases hj with
    | head=>exact hSi
    | tail _ hj=>exact hS j hj) ⟨k,hk',hkS⟩
   exact ⟨m,om,List.mem_cons_of_mem _ q1,q2,q3,q4⟩
  ·exact ⟨i,o,List.mem_cons_self ..,hSi,ho,fun j hj=>hS j (ha j hj)⟩
theorem S0 {ops:Array Oper} {n:Nat} : ∀ (l J:List Nat),jM ops.toList n l J=true->(∀ k∈J,k<n) -> ∀ i∈l,∀ o,ops[i]? = some o -> ∀ j∈cN o,j<n
 | [],_,_,_,i,hi,_,_,_,_=>by cases hi
 | k::l,J,h,hd,i,hi,o,ho,j,hj=>by
  obtain ⟨h1,_,⟨ok,hok,ha,_⟩,h4⟩:=kL h
  cases hi with
  | head=>
   have:ok=o:=Option.some.inj (hok.symm.trans ho)
   subst this;exact hd j (ha j hj)
  | tail _ hi=>exact S0 l (k::J) h4 (fun m hm=>by
    cases hm with
    | head=>exact h1
    | tail _ hm=>exact hd m hm) i hi o ho j hj
def bP.set (V:bP)(i:Nat)(s:Sv)(b:Option Blk) (w:Option (Nat × Blk)):bP:=⟨fun k=>if k=i then some s else V.v k,fun k=>if k=i then b else V.b k,fun k=>if k=i then w else V.w k⟩
theorem Inv.mono {η:Env} {ops:Array Oper} {E0:Emb} {M top lo base nt:Nat} {w0:World} {af:T Sv} {hp0:T Blk} {V V':bP} {L:Nat->Prop} {E:Emb} {a:Act} {w:World} (h:Inv η ops E0 M top lo base nt w0 af hp0 V L E a w)
  (hV : ∀ k,L k->V'.v k=V.v k/\V'.b k=V.b k/\V'.w k=V.w k):Inv η ops E0 M top lo base nt w0 af hp0 V' L E a w:=by
 obtain ⟨ag,old,rc,⟨hp,hp1,hp2,hp3,hH⟩,fresh,sz,df,bl⟩:=h;refine ⟨ag,old,fun i o d hL ho hd => ?_,⟨hp,fun i b h hno=>hp1 i b h fun k c hk => ?_,fun i b hL hb hno=>hp2 i b hL ?_ fun k c hk => ?_,fun k x c hk hw => ?_,hH⟩,fresh,sz,df,bl⟩
 ·rw [(hV i hL).1];exact rc i o d hL ho hd
 ·have:=hno k c hk;rwa [(hV k hk).2.2] at this
 ·rw [←(hV i hL).2.1];exact hb
 ·have:=hno k c hk;rwa [(hV k hk).2.2] at this
 ·rw [(hV k hk).2.2] at hw;exact hp3 k x c hk hw
theorem UW.mono {C:Cx} {η:Env} {ih:FI->List Sv->St->aB (Sv × St)} {ops:Array Oper} {n M top lo:Nat} {af:T Sv} {hp0:T Blk} {V:bP} {J:List Nat} {j i:Nat} {oj o:Oper} {pc W:PC} {s:Sv} {b:Option Blk} {wr:Option (Nat × Blk)}
  (h:UW C η ih ops n M top lo af hp0 V j oj pc W) (hj:j∈J) (hc:tQ ops (· ∈ J)) (hi:i ∉ J) (ad:ops[j]? = some oj) (ho:ops[i]? = some o)
  (hw : ∀ x c,wr=some (x,c)->j∈iM ops.toList o /\ ∀ r,V.w j=some r->x≠r.1):UW C η ih ops n M top lo af hp0 (V.set i s b wr) j oj pc W:=by
 obtain ⟨tm,O,sv,h1,h2,h3⟩:=h.says
 have ha : ∀ k∈cN oj,k∈J:=hc j oj hj ad
 have Z : ∀ k,k∈J->k≠i:=fun k hk e=>by subst e;exact hi hk
 have hji:=Z j hj
 have hs:G7 ops n M hp0 V j oj O->G7 ops n M hp0 (V.set i s b wr) j oj O:=by
  intro hse x c hx
  rcases hse x c hx with ⟨k,hk,hwk⟩ | ⟨hb,hno⟩
  ·have:=Z k (nG hc ha k hk)
   exact .inl ⟨k,hk,by simp [bP.set,this,hwk]⟩
  ·refine .inr ⟨?_,fun k ok d hk hok hwk => ?_⟩
   ·rcases hb with hb | ⟨k,hk,hb,hxe⟩
    ·exact .inl hb
    ·have:=Z k (nG hc ha k hk)
     exact .inr ⟨k,hk,by simp [bP.set,this,hb],hxe⟩
   ·by_cases hki:k=i
    ·subst hki
     have:ok=o:=Option.some.inj (hok.symm.trans ho)
     subst this;simp only [bP.set,if_true] at hwk;exact .inl (hw x d hwk).1
    ·simp only [bP.set,hki,if_false] at hwk;exact hno k ok d hk hok hwk
 refine ⟨tm,O,sv,by simp [bP.set,hji,h1],fun t ht x hx => ?_,?_⟩
 ·rcases h2 t ht x hx with ⟨k,ok,q1,q2,q3,q4⟩ | q
  ·have:=Z k (ha k q1)
   exact .inl ⟨k,ok,q1,q2,q3,by simp [bP.set,this,q4]⟩
  ·exact .inr q
 ·rcases h3 with ⟨ar,q1,q2,q2',q3,q4,q5,q6⟩ | ⟨q1,q2,q3,q4⟩ | ⟨t,x,v,r,q1,q2,q3,q4,q5,q6,q7,q8,q9⟩ | ⟨f,g,args,r,q1,q2,q3,q4,q5,q6⟩ | ⟨f,fi,args,r,blk,q1,q2,q3,q4,q5,q6,q7⟩ | ⟨r,q1,q2,q3,q4,q5,q6,q7⟩ | ⟨jg,want,dg,bx,ab,q1,q2,q3,q4,q5,q6,q7⟩
  ·exact .inl ⟨ar,q1,q2,q2',q3,by simp [bP.set,hji,q4],by simp [bP.set,hji,q5],q6⟩
  ·exact .inr (.inl ⟨hs q1,q2,by simp [bP.set,hji,q3],by simp [bP.set,hji,q4]⟩)
  ·refine .inr (.inr (.inl ⟨t,x,v,r,hs q1,q2,q3,q4,q5,by simp [bP.set,hji,q6],by simp [bP.set,hji,q7],q8,fun k y c hk hkj hwk => ?_⟩))
   by_cases hki:k=i
   ·subst hki;simp only [bP.set,if_true] at hwk;exact (hw y c hwk).2 r q7
   ·simp only [bP.set,hki,if_false] at hwk;exact q9 k y c hk hkj hwk
  ·exact .inr (.inr (.inr (.inl ⟨f,g,args,r,hs q1,q2,q3,q4,by simp [bP.set,hji,q5],by simp [bP.set,hji,q6]⟩)))
  ·exact .inr (.inr (.inr (.inr (.inl ⟨f,fi,args,r,blk,hs q1,q2,q3,q4,by simp [bP.set,hji,q5],by simp [bP.set,hji,q6],q7⟩))))
  ·refine .inr (.inr (.inr (.inr (.inr (.inl ⟨r,hs q1,q2,q3,by simp [bP.set,hji,q4],by simp [bP.set,hji,q5],q6,fun k y c hk hkj hwk => ?_⟩)))))
   by_cases hki:k=i
   ·subst hki;simp only [bP.set,if_true] at hwk;exact (hw y c hwk).2 (r.1,r.2.1) q5
   ·simp only [bP.set,hki,if_false] at hwk;exact q7 k y c hk hkj hwk
  ·refine .inr (.inr (.inr (.inr (.inr (.inr ⟨jg,want,dg,bx,ab,q1,q2,q3,q4,by simp [bP.set,hji,q5],by simp [bP.set,hji,q6],?_⟩)))))
   rcases q7 with ⟨e,f,g,args,r,p1,p2,p3,p4⟩ | q7
   ·exact .inl ⟨e,f,g,args,r,hs p1,p2,p3,p4⟩
   ·exact .inr q7
theorem UX {nt:Nat} {d:Option Tmp} {s:Sv} {tm tm':T Sv} (h:A3 nt d s tm=some tm') (hnt:nt<=60000):(∀ e,d=some e->e<nt) /\ ∀ t x,tm'.get t=some x->(d=some t/\x=s)∨(d≠some t/\tm.get t=some x):=by
 cases d with
 | none=>cases h;exact ⟨fun e he=>(by cases he),fun t x hx => .inr ⟨by simp,hx⟩⟩
 | some d=>
  simp only [A3] at h
  cases hb:Nat.blt d nt with
  | false=>rw [hb] at h;cases h
  | true=>
   rw [hb] at h;cases h
   have hb:d<nt:=le_of_ble_eq_true hb
   have hb':d<65535:=Nat.lt_of_lt_of_le hb (by omega)
   refine ⟨fun e he=>(by cases he;exact hb),fun t x hx => ?_⟩
   by_cases hdt:d=t
   ·subst hdt;rw [T.get_set_same _ _ _ hb'] at hx
    cases hx;exact .inl ⟨rfl,rfl⟩
   ·rw [T.get_set_ne _ _ _ _ hdt] at hx;exact .inr ⟨by simpa using hdt,hx⟩
structure Run (C:Cx) (η:Env) (ih:FI->List Sv->St->aB (Sv × St)) (ops:Array Oper) (n nt top:Nat) (st:St) (V:bP) (J:List Nat) (tm:T Sv) (bk:T Blk) (wl:List Wr):Prop where
 tm : ∀ t s,tm.get t=some s->(∃ k ok,k∈J/\ops[k]? = some ok/\ok.dst=some t/\V.v k=some s)∨(st.tm.get t=some s /\ ∀ k ok,k∈J->ops[k]? = some ok->ok.dst≠some t)
 bk : ∀ k b,bk.get k=some b->k∈J/\V.b k=some b
 wk : ∀ r∈wl,r.k∈J/\V.w r.k=some (r.x,r.c)/\r.x<65535
 wr : ∀ k x c,V.w k=some (x,c)->k∈J /\ ∃ r∈wl,r.k=k/\r.x=x/\r.c=c
 word : ∀ i∈J,∃ o pc W,ops[i]? = some o/\pc.holds η/\(∀ d,o.dst=some d->d<nt)/\UW C η ih ops n st.nx top st.lo st.tm st.hp V i o pc W
 closed:tQ ops (· ∈ J)
 lt : ∀ i∈J,i<n
theorem rX {hp:T Blk} : ∀ {l:List (Nat × Blk)},(∀ p∈l,p.1<65535) -> ∀ x b,(fP hp l).get x=some b->(∃ p∈l,p=(x,b))∨hp.get x=some b
 | [],_,x,b,h => .inr h
 | p::l,hl,x,b,h=>by
  simp only [fP] at h
  by_cases hpx:p.1=x
  ·subst hpx;rw [T.get_set_same _ _ _ (hl p (List.mem_cons_self ..))] at h
   cases h
   exact .inl ⟨p,List.mem_cons_self ..,rfl⟩
  ·rw [T.get_set_ne _ _ _ _ hpx] at h
   rcases rX (fun q hq=>hl q (List.mem_cons_of_mem _ hq)) x b h with ⟨q,hq,e⟩ | h
   ·exact .inl ⟨q,List.mem_cons_of_mem _ hq,e⟩
   ·exact .inr h
theorem MW {anc:List Nat} {hp:T Blk} : ∀ {wl:List Wr},(∀ r∈wl,r.x<65535) -> ∀ x b,(sQ anc hp wl).get x=some b->(∃ r∈wl,r.k∈anc/\r.x=x/\r.c=b)∨(hp.get x=some b /\ ∀ r∈wl,r.x≠x)
 | [],_,x,b,h => .inr ⟨h,fun _ h=>by cases h⟩
 | r::wl,hl,x,b,h=>by
  simp only [sQ] at h
  by_cases hrx:r.x=x
  ·subst hrx;rw [T.get_set_same _ _ _ (hl r (List.mem_cons_self ..))] at h
   cases hc:(anc.any fun k=>Nat.beq k r.k) with
   | false=>rw [hc] at h;cases h
   | true=>rw [hc] at h;cases h;exact .inl ⟨r,List.mem_cons_self ..,rW.1 hc,rfl,rfl⟩
  ·rw [T.get_set_ne _ _ _ _ hrx] at h
   rcases MW (fun q hq=>hl q (List.mem_cons_of_mem _ hq)) x b h with ⟨q,hq,e⟩ | ⟨h,hno⟩
   ·exact .inl ⟨q,List.mem_cons_of_mem _ hq,e⟩
   ·refine .inr ⟨h,fun q hq => ?_⟩
    cases hq with
    | head=>exact hrx
    | tail _ hq=>exact hno q hq
theorem CZ {C:Cx} {P:Program} {η:Env} (hC:C.Ok P η) {ih:FI->List Sv->St->aB (Sv × St)} (ac:eO P η ih) {ops:Array Oper}
  {E0:Emb} {top base nt n:Nat} {w0:World} {st:St} (hnt:nt<=60000) (htop:top=st.nx+n) (hlim:top<=65000) (hF:kV ops n) : ∀ (l J:List Nat) (V:bP) (tm:T Sv) (bk:T Blk) (wl:List Wr) (pc:PC) (tm':T Sv) (bk':T Blk) (wl':List Wr) (W:PC),jM ops.toList n l J=true->
  (gS C ih nt ops.toList st top l tm bk wl pc).at_ η=some (tm',bk',wl',W)->pc.holds η->Run C η ih ops n nt top st V J tm bk wl->
  (∃ E a w,Inv η ops E0 st.nx top st.lo base nt w0 st.tm st.hp V (· ∈ J) E a w)->
  W.holds η /\ ∃ V' done',Run C η ih ops n nt top st V' done' tm' bk' wl' /\ ∀ i,i∈J∨i∈l->i∈done'
 | [],J,V,tm,bk,wl,pc,tm',bk',wl',W,_,h,ae,hR,_=>by
  cases h
  exact ⟨ae,V,J,hR,fun i hi=>hi.resolve_right (fun h=>by cases h)⟩
 | i::l,J,V,tm,bk,wl,pc,tm',bk',wl',W,hord,h,ae,hR,hI=>by
  obtain ⟨hin,hnot,⟨o,ho,haft,hstore⟩,hord'⟩:=kL hord;simp only [gS] at h;rw [cD,Array.getElem?_toList,ho] at h;simp only at h
  have hwi:V.w i=none:=by
   cases hw:V.w i with
   | none=>rfl
   | some r=>exact absurd (hR.wr i r.1 r.2 hw).1 hnot
  have hslots : ∀ s b wr,∀ t∈eX ops.toList o,∀ x,tm.get t=some x->(∃ k ok,k∈cN o/\ops[k]? = some ok/\ok.dst=some t/\(V.set i s b wr).v k=some x)∨(st.tm.get t=some x /\ ∀ k ok,k<n->ops[k]? = some ok->ok.dst=some t->i∈cN ok∨k=i):=by
   intro s b wr t ht x hx
   rcases hR.tm t x hx with ⟨k,ok,hk,hok,hdk,hVk⟩ | ⟨h0,hno⟩
   ·have hki:k≠i:=fun e=>by subst e;exact hnot hk
    rcases hF.slot i o t hin ho ht k ok (hR.lt k hk) hok hdk with h | h | h
    ·exact .inl ⟨k,ok,h,hok,hdk,by simp [bP.set,hki,hVk]⟩
    ·exact absurd (hR.closed k ok hk hok i h) hnot
    ·exact absurd h hki
   ·refine .inr ⟨h0,fun k ok hk hok hdk => ?_⟩
    rcases hF.slot i o t hin ho ht k ok hk hok hdk with h | h | h
    ·exact absurd hdk (hno k ok (haft k h) hok)
    ·exact .inl h
    ·exact .inr h
  have hsees : ∀ bl,CS bk st.nx (lF ops.toList (iM ops.toList o))=some bl -> ∀ s b wr,G7 ops n st.nx st.hp (V.set i s b wr) i o (sQ (iM ops.toList o) (fP st.hp bl) wl):=by
   intro bl hbl s b wr x c hx
   have hanc : ∀ k∈iM ops.toList o,k∈J:=nG hR.closed haft
   have hbm:=CY hbl
   rcases MW (fun r hr=>(hR.wk r hr).2.2) x c hx with ⟨r,hr,hk,rfl,rfl⟩ | ⟨hx,hno⟩
   ·have hki:r.k≠i:=fun e=>hnot (by rw [←e];exact (hR.wk r hr).1)
    exact .inl ⟨r.k,hk,by simp [bP.set,hki,(hR.wk r hr).2.1]⟩
   ·refine .inr ⟨?_,fun k ok d hk hok hwk => ?_⟩
    ·rcases rX (fun p hp=>by
      obtain ⟨k,hk,b',hb',rfl⟩:=hbm p hp
      have:=hR.lt k (hR.bk k b' hb').1
      simp only;omega) x c hx with ⟨p,hp,hpe⟩ | h
     ·obtain ⟨k,hk,b',hb',hpe'⟩:=hbm p hp;rw [hpe] at hpe'
      cases hpe'
      have hkm:=mB hk
      have hki:k≠i:=fun e=>by subst e;exact hnot (hanc _ hkm)
      exact .inr ⟨k,hkm,by simp [bP.set,hki,(hR.bk k c hb').2],rfl⟩
     ·exact .inl h
    ·by_cases hki:k=i
     ·exact .inr hki
     ·simp only [bP.set,hki,if_false] at hwk;obtain ⟨_,r,hr,_,hrx,_⟩:=hR.wr k x d hwk;exact absurd hrx (hno r hr)
  have key : ∀ (s:Sv) (b:Option Blk) (wr:Option (Nat × Blk)) (ab:PC) (Y:T Sv) (bk1:T Blk) (wl1:List Wr),A3 nt o.dst s tm=some Y->(∀ k x,bk1.get k=some x->(k=i/\b=some x)∨(k≠i/\bk.get k=some x))->
    ((wr=none/\wl1=wl)∨(jL o=true /\ ∃ r,wr=some r/\wl1=⟨i,r.1,r.2⟩::wl/\r.1<65535 /\ ∀ q∈wl,q.x≠r.1))->UW C η ih ops n st.nx top st.lo st.tm st.hp (V.set i s b wr) i o pc ab->
    (gS C ih nt ops.toList st top l Y bk1 wl1 ab).at_ η=some (tm',bk',wl',W)->W.holds η /\ ∃ V' done',Run C η ih ops n nt top st V' done' tm' bk' wl' /\ ∀ j,j∈J∨j∈i::l->j∈done':=by
   intro s b wr ab Y bk1 wl1 hput hbk hwl hw hrun;obtain ⟨hdn,htm1⟩:=UX hput hnt
   have Z : ∀ k,k∈J->k≠i:=fun k hk e=>by subst e;exact hnot hk
   obtain ⟨E,a,w,hI⟩:=hI
   have hI1:=hI.mono (V':=V.set i s b wr) fun k hk=>by
    have:=Z k hk
    simp [bP.set,this]
   obtain ⟨hpc1,S,⟨a1,w1,hS⟩,s2,_⟩:=MV (ro:=none) (m:=0) hC ac hI1 hR.closed hR.lt hF.le hnot (by omega) ho haft
    (fun d hd j oj hj ad hjd=>hnot (by have:=hF.uniq i j o oj d hin (hR.lt j hj) ho ad hd hjd;subst this;exact hj)) hdn ae hw
   obtain ⟨E1,hI2⟩:=s2 a1 w1 hS
   have hclosed:tQ ops (· ∈ i::J):=by
    intro k ok hk hok j hj
    cases hk with
    | head=>
     have:ok=o:=Option.some.inj (hok.symm.trans ho)
     subst this;exact List.mem_cons_of_mem _ (haft j hj)
    | tail _ hk=>exact List.mem_cons_of_mem _ (hR.closed k ok hk hok j hj)
   have hR1:Run C η ih ops n nt top st (V.set i s b wr) (i::J) Y bk1 wl1:=by
    refine ⟨fun t x hx => ?_,fun k x hx => ?_,fun r hr => ?_,fun k x c hk => ?_,fun k hk => ?_,hclosed,fun k hk => ?_⟩
    ·rcases htm1 t x hx with ⟨hd,rfl⟩ | ⟨hd,hx⟩
     ·exact .inl ⟨i,o,List.mem_cons_self ..,ho,hd,by simp [bP.set]⟩
     ·rcases hR.tm t x hx with ⟨k,ok,hk,hok,hdk,hVk⟩ | ⟨h0,hno⟩
      ·have hki:=Z k hk
       exact .inl ⟨k,ok,List.mem_cons_of_mem _ hk,hok,hdk,by simp [bP.set,hki,hVk]⟩
      ·refine .inr ⟨h0,fun k ok hk hok => ?_⟩
       cases hk with
       | head=>
        have:ok=o:=Option.some.inj (hok.symm.trans ho)
        subst this;exact hd
       | tail _ hk=>exact hno k ok hk hok
    ·rcases hbk k x hx with ⟨rfl,hb⟩ | ⟨hki,hx⟩
     ·exact ⟨List.mem_cons_self ..,by simp [bP.set,hb]⟩
     ·obtain ⟨q1,q2⟩:=hR.bk k x hx;exact ⟨List.mem_cons_of_mem _ q1,by simp [bP.set,hki,q2]⟩
    ·have old:r∈wl->r.k∈i::J/\(V.set i s b wr).w r.k=some (r.x,r.c)/\r.x<65535:=fun hr=>by
      obtain ⟨q1,q2,q3⟩:=hR.wk r hr
      have hki:=Z r.k q1
      exact ⟨List.mem_cons_of_mem _ q1,by simp [bP.set,hki,q2],q3⟩
     rcases hwl with ⟨_,rfl⟩ | ⟨_,q,hq,rfl,hq2,_⟩
     ·exact old hr
     ·cases hr with
      | head=>exact ⟨List.mem_cons_self ..,by simp [bP.set,hq],hq2⟩
      | tail _ hr=>exact old hr
    ·by_cases hki:k=i
     ·subst hki;simp only [bP.set,if_true] at hk
      rcases hwl with ⟨h0,_⟩ | ⟨_,q,hq,rfl,hq2,_⟩
      ·rw [h0] at hk;cases hk
      ·rw [hq] at hk;cases hk;exact ⟨List.mem_cons_self ..,_,List.mem_cons_self ..,rfl,rfl,rfl⟩
     ·simp only [bP.set,hki,if_false] at hk;obtain ⟨q1,r,q2,q3⟩:=hR.wr k x c hk;refine ⟨List.mem_cons_of_mem _ q1,r,?_,q3⟩
      rcases hwl with ⟨_,rfl⟩ | ⟨_,q,hq,rfl,_⟩
      ·exact q2
      ·exact List.mem_cons_of_mem _ q2
    ·cases hk with
     | head=>exact ⟨o,pc,ab,ho,ae,hdn,hw⟩
     | tail _ hk=>
      obtain ⟨ok,p1,p2,q1,q2,q3,q4⟩:=hR.word k hk;refine ⟨ok,p1,p2,q1,q2,q3,q4.mono hk hR.closed hnot q1 ho fun x c hwr => ?_⟩
      rcases hwl with ⟨h0,_⟩ | ⟨hst,q,hq,_,_,hq3⟩
      ·rw [h0] at hwr;cases hwr
      ·rw [hq] at hwr;cases hwr;refine ⟨hstore hst k hk,fun r hr => ?_⟩
       obtain ⟨_,r',hr',_,hrx,_⟩:=hR.wr k r.1 r.2 hr;rw [←hrx];exact Ne.symm (hq3 r' hr')
    ·cases hk with
     | head=>exact hin
     | tail _ hk=>exact hR.lt k hk
   have hset:(fun j=>j∈J∨j=i)=(· ∈ i::J):=by funext j;simp [or_comm]
   obtain ⟨r1,V',done',r2,r3⟩:=CZ hC ac hnt htop hlim hF l (i::J) _ Y bk1 wl1 ab tm' bk' wl' W hord' hrun hpc1 hR1 ⟨E1,a1,w1,by rw [hset] at hI2;exact hI2⟩
   refine ⟨r1,V',done',r2,fun j hj=>r3 j ?_⟩
   rcases hj with hj | hj
   ·exact .inl (List.mem_cons_of_mem _ hj)
   ·cases hj with
    | head=>exact .inl (List.mem_cons_self ..)
    | tail _ hj=>exact .inr hj
  have hbki : ∀ x,bk.get i≠some x:=fun x hx=>hnot (hR.bk i x hx).1
  split at h
  ·rename_i ar hg har;split at h
   ·rename_i Y hput;obtain ⟨hck,h⟩:=JC h;refine key _ (some ar.blk) none pc Y _ wl hput (fun k x hx => ?_) (.inl ⟨rfl,rfl⟩) ⟨tm,.nil,_,by simp [bP.set],hslots _ _ _,.inl ⟨ar,hg,har,hck,rfl,by simp [bP.set],by simp [bP.set],rfl⟩⟩ h
    by_cases hki:i=k
    ·subst hki;rw [T.get_set_same _ _ _ (by omega)] at hx
     exact .inl ⟨rfl,hx⟩
    ·rw [T.get_set_ne _ _ _ _ hki] at hx;exact .inr ⟨Ne.symm hki,hx⟩
   ·cases h
  ·split at h
   ·rename_i bl hbl;split at h
    ·rename_i t x v hg hop;split at h
     ·rename_i r0 Y hst hput;obtain ⟨ck,r⟩:=r0;simp only at h
      cases hc:((wl.any fun q=>Nat.beq q.x r.1) || !Nat.blt r.1 65535) with
      | true=>rw [hc] at h;cases h
      | false=>
       rw [hc] at h;simp only [cond_false] at h;obtain ⟨hck,h⟩:=JC h
       have hst:=StB.of hst hck
       simp only [Bool.or_eq_false_iff] at hc
       have hr1:r.1<65535:=by
        have:=hc.2
        cases hb:Nat.blt r.1 65535 with
        | true=>exact le_of_ble_eq_true hb
        | false=>rw [hb] at this;cases this
       have hq : ∀ q∈wl,q.x≠r.1:=fun q hq e=>by
        have:=List.any_eq_false.1 hc.1 q hq
        exact this (by rw [e];simp)
       refine key .undef none (some r) pc Y bk _ hput (fun k x hx => .inr ⟨fun e=>by subst e;exact hbki x hx,hx⟩) (.inr ⟨by simp [jL,hop],r,rfl,rfl,hr1,hq⟩)
        ⟨tm,_,.undef,by simp [bP.set],hslots _ _ _,.inr (.inr (.inl ⟨t,x,v,r,hsees bl hbl _ _ _,hg,hop,hst,rfl,by simp [bP.set],by simp [bP.set],rfl,fun j y c hj hji hwj => ?_⟩))⟩ h
       simp only [bP.set,hji,if_false] at hwj;obtain ⟨_,r',hr',_,hrx,_⟩:=hR.wr j y c hwj;rw [←hrx];exact hq r' hr'
     ·cases h
    ·split at h
     ·rename_i bx want f gg args hgg;obtain ⟨jg,dg,e1,e2,e3,e4⟩:=MU hgg;obtain ⟨ab,hp1,h1⟩:=bN hC.D ae h;split at h1
      ·rename_i he;obtain ⟨⟨s,pc2⟩,h2,h3⟩:=aB.at_bind h1;simp only at h3;split at h3
       ·rename_i Y hput;exact key (kI (st.nx+i) s) none none pc2 Y bk wl hput (fun k x hx => .inr ⟨fun e=>by subst e;exact hbki x hx,hx⟩) (.inl ⟨rfl,rfl⟩)
         ⟨tm,_,_,by simp [bP.set],hslots _ _ _,.inr (.inr (.inr (.inr (.inr (.inr ⟨jg,want,dg,bx,ab,e1,e2,e3,hp1,by simp [bP.set],by simp [bP.set],.inl ⟨he,f,gg,args,s,hsees bl hbl _ _ _,e4,h2,rfl⟩⟩)))))⟩ h3
       ·cases h3
      ·rename_i he;split at h1
       ·rename_i Y hput;exact key .undef none none ab Y bk wl hput (fun k x hx => .inr ⟨fun e=>by subst e;exact hbki x hx,hx⟩) (.inl ⟨rfl,rfl⟩)
         ⟨tm,.nil,_,by simp [bP.set],hslots _ _ _,.inr (.inr (.inr (.inr (.inr (.inr ⟨jg,want,dg,bx,ab,e1,e2,e3,hp1,by simp [bP.set],by simp [bP.set],.inr ⟨he,rfl,rfl⟩⟩)))))⟩ h1
       ·cases h1
     split at h
     ·rename_i f gg args hgo;obtain ⟨⟨s,ab⟩,h1,h2⟩:=aB.at_bind h;simp only at h2;split at h2
      ·rename_i Y hput;exact key (kI (st.nx+i) s) none none ab Y bk wl hput (fun k x hx => .inr ⟨fun e=>by subst e;exact hbki x hx,hx⟩) (.inl ⟨rfl,rfl⟩)
        ⟨tm,_,_,by simp [bP.set],hslots _ _ _,.inr (.inr (.inr (.inl ⟨f,gg,args,s,hsees bl hbl _ _ _,hgo,h1,rfl,by simp [bP.set],by simp [bP.set]⟩)))⟩ h2
      ·cases h2
     split at h
     ·rename_i r Y hco hput;rw [hco] at hput;split at h
      ·cases h
      ·rename_i hc;simp only [Bool.or_eq_false_iff] at hc
       have hr1:r.1<65535:=by
        have:=hc.2
        cases hb:Nat.blt r.1 65535 with
        | true=>exact le_of_ble_eq_true hb
        | false=>rw [hb] at this;cases this
       have hq : ∀ q∈wl,q.x≠r.1:=fun q hq e=>by
        have:=List.any_eq_false.1 hc.1 q hq
        exact this (by rw [e];simp)
       have hput:A3 nt o.dst (.one (.int .i64 (.lit (.ofNat r.2.2)))) tm=some Y:=hput
       refine key (.one (.int .i64 (.lit (.ofNat r.2.2)))) none (some (r.1,r.2.1)) pc Y bk _ hput (fun k x hx => .inr ⟨fun e=>by subst e;exact hbki x hx,hx⟩) (.inr ⟨UV hco,(r.1,r.2.1),rfl,rfl,hr1,hq⟩)
        ⟨tm,_,_,by simp [bP.set],hslots _ _ _,.inr (.inr (.inr (.inr (.inr (.inl ⟨r,hsees bl hbl _ _ _,hco,rfl,by simp [bP.set],by simp [bP.set],rfl,fun j y c hj hji hwj => ?_⟩)))))⟩ h
       simp only [bP.set,hji,if_false] at hwj;obtain ⟨_,r',hr',_,hrx,_⟩:=hR.wr j y c hwj;rw [←hrx];exact hq r' hr'
     split at h
     ·rename_i f fi args hgo;obtain ⟨r,h1,h2⟩:=aB.at_bind h;split at h2
      ·rename_i blk sv how;split at h2
       ·rename_i Y hput;refine key sv (some blk) none r.2.pc Y _ wl hput (fun k x hx => ?_) (.inl ⟨rfl,rfl⟩)
         ⟨tm,_,_,by simp [bP.set],hslots _ _ _,.inr (.inr (.inr (.inr (.inl ⟨f,fi,args,r,blk,hsees bl hbl _ _ _,hgo,h1,how,by simp [bP.set],by simp [bP.set],rfl⟩))))⟩ h2
        by_cases hki:i=k
        ·subst hki;rw [T.get_set_same _ _ _ (by omega)] at hx
         exact .inl ⟨rfl,hx⟩
        ·rw [T.get_set_ne _ _ _ _ hki] at hx;exact .inr ⟨Ne.symm hki,hx⟩
       ·cases h2
      ·cases h2
     obtain ⟨⟨s,ab⟩,h1,h2⟩:=aB.at_bind h;simp only at h2;split at h2
     ·rename_i Y hput;exact key s none none ab Y bk wl hput (fun k x hx => .inr ⟨fun e=>by subst e;exact hbki x hx,hx⟩) (.inl ⟨rfl,rfl⟩)
       ⟨tm,_,s,by simp [bP.set],hslots _ _ _,.inr (.inl ⟨hsees bl hbl _ _ _,h1,by simp [bP.set],by simp [bP.set]⟩)⟩ h2
     ·cases h2
   ·cases h
theorem WO {C:Cx} {P:Program} {η:Env} (hC:C.Ok P η) {ih:FI->List Sv->St->aB (Sv × St)} (ac:eO P η ih) {nt:Nat} {ops:Array Oper} {n:Nat} (hF:kV ops n) (Q:Exit->Act->World->Prop):
  ∀ (l:List Oper) (k:Nat) (st X:St) (G:Array Bool) (N:Nat),(∀ j,l[j]? = ops[k+j]?)->k+l.length=ops.size->n<=k->l.length<=N->G.size=ops.size->(∀ j,j<ops.size->(G.getD j true=true↔j<k))->
  (xX C ih nt ops.toList l st).at_ η=some X -> ∀ (E:Emb) (base:Nat) (w0:World) (a:Act) (w:World),cP η E nt base w0 st a w->
  (∀ E' a' w',aJ E E' st.nx->st.nx<=X.nx->X.lo=st.lo->cP η E' nt base w0 X a' w'->Q .normal a' w')->wpAnyIn (FW ro) m P .any ops Q N G a w
 | [],k,st,X,G,N,hl,hk,hnk,hfu,hsz,aa,h,E,base,w0,a,w,hS,hK=>by
  cases h
  have hr:Region.ready .any ops G=[]:=by
   cases hh:Region.ready .any ops G with
   | nil=>rfl
   | cons x xs=>
    have hx:x∈Region.ready .any ops G:=by rw [hh];exact List.mem_cons_self ..
    obtain ⟨h1,o,h2,_⟩:=mem_ready.1 hx
    have hlt:=(Array.getElem?_eq_some_iff.1 h2).1
    rw [(aa x hlt).2 (by simp at hk;omega)] at h1
    cases h1
  have hq:=hK E a w (aJ.refl _ _) (Nat.le_refl _) rfl hS
  cases N with
  | zero=>exact ⟨hr,hq⟩
  | succ f=>exact ⟨fun _=>hq,fun i hi=>by rw [hr] at hi;cases hi⟩
 | o::l,k,st,X,G,N,hl,hk,hnk,hfu,hsz,aa,h,E,base,w0,a,w,hS,hK=>by
  obtain ⟨st1,h1,h2⟩:=aB.at_bind h
  have ho:ops[k]? = some o:=by have:=hl 0;simpa using this.symm
  have hklt:k<ops.size:=by simp at hk;omega
  cases N with
  | zero=>simp at hfu
  | succ f=>
   rcases hF.tail with hF | ⟨_,hch,hnl,haft⟩
   ·omega
   have hkr:k∈Region.ready .any ops G:=by
    refine mem_ready.2 ⟨?_,o,ho,fun e he hb => ?_⟩
    ·cases hc:G.getD k true with
     | false=>rfl
     | true=>have:=(aa k hklt).1 hc;omega
    ·have hlt:=haft k o hnk ho e.on (cF.2 ⟨e,he,hb,rfl⟩)
     have:=(aa e.on (by omega)).2 hlt
     rw [Array.getD_eq_getD_getElem?] at this ⊢
     have hes:e.on<G.size:=by omega
     simpa [hes] using this
   have hrk : ∀ i∈Region.ready .any ops G,i=k:=by
    intro i hi;obtain ⟨g1,oi,g2,g3⟩:=mem_ready.1 hi
    have hilt:=(Array.getElem?_eq_some_iff.1 g2).1
    have hge:k<=i:=by
     rcases Nat.lt_or_ge i k with hlt | hge
     ·rw [(aa i hilt).2 hlt] at g1;cases g1
     ·exact hge
    rcases Nat.lt_or_ge k i with hgt | hle
    ·have hc:=List.all_eq_true.1 hch i (List.mem_range.2 hilt)
     simp only [Bool.or_eq_true,decide_eq_true_eq] at hc
     rcases hc with hc | hc
     ·omega
     ·obtain ⟨o',ho',e,he,hb,hon⟩:=Region.waitsFor_spec hc
      have:o'=oi:=Option.some.inj (ho'.symm.trans g2)
      subst this
      have h3:=g3 e he hb
      rw [hon] at h3
      have hlt:i-1<G.size:=by omega
      have:G.getD (i-1) true=true:=by
       rw [Array.getD_eq_getD_getElem?] at h3 ⊢
       simpa [hlt] using h3
      have:=(aa (i-1) (by omega)).1 this
      omega
    ·omega
   refine ⟨fun h0=>(by rw [h0] at hkr;cases hkr),fun i hi => ?_⟩
   have:=hrk i hi;subst this
   have g4:=tJ (ro:=ro) (m:=m) hC ac ho h1 hS Q
   have hl' : ∀ j,l[j]? = ops[i+1+j]? := fun j=>by have:=hl (j+1);simpa [Nat.add_assoc,Nat.add_comm 1 j] using this
   refine g4 _ (fun E' a' w' hA hn hlo hS1 => ?_)
   refine WO hC ac hF Q l (i+1) st1 X _ f hl' (by simp at hk;omega) (by omega) (by simp at hfu;omega) (by simp [hsz]) ?_ h2 E' base w0 a' w' hS1 (fun E'' a'' w'' hA' hn' hlo' hS'=>hK E'' a'' w'' (hA.trans hA' hn) (Nat.le_trans hn hn') (hlo'.trans hlo) hS')
   intro j hj
   by_cases hij:i=j
   ·subst hij
    have:(G.setIfInBounds i true).getD i true=true:=by simp [hsz,hj]
    simp [this]
   ·rw [getD_set_ne true hij,aa j hj];omega
theorem S1 {G:Array Bool} {i:Nat} (hi:G.getD i true=false) : ∀ l:List Nat,(l.countP fun j => !(G.setIfInBounds i true).getD j true)<=(l.countP fun j => !G.getD j true)/\(i∈l->(l.countP fun j => !(G.setIfInBounds i true).getD j true)<(l.countP fun j => !G.getD j true))
 | []=>⟨by simp,fun h=>by cases h⟩
 | k::l=>by
  obtain ⟨h1,h2⟩:=S1 hi l
  by_cases hik:i=k
  ·subst hik
   have hlt:i<G.size:=by
    rcases Nat.lt_or_ge i G.size with h | h
    ·exact h
    ·simp [Array.getElem?_eq_none h] at hi
   have:(G.setIfInBounds i true).getD i true=true:=by simp [hlt]
   simp only [List.countP_cons,this,hi,Bool.not_true,Bool.not_false,if_true,Bool.false_eq_true,if_false];exact ⟨by omega,fun _=>by omega⟩
  ·simp only [List.countP_cons,getD_set_ne true hik];refine ⟨by omega,fun hm => ?_⟩
   have:=h2 ((List.mem_cons.1 hm).resolve_left hik)
   omega
theorem aal {C:Cx} {P:Program} {η:Env} (hC:C.Ok P η) {ih:FI->List Sv->St->aB (Sv × St)} (ac:eO P η ih) {ops:Array Oper}
  {E0:Emb} {top base nt n:Nat} {w0:World} {st:St} {V:bP} {J:List Nat} {tm:T Sv} {bk:T Blk} {wl:List Wr} (htop:top=st.nx+n) (hF:kV ops n)
  (hR:Run C η ih ops n nt top st V J tm bk wl) (ai : ∀ i,i<n->i∈J)
  {Q:Exit->Act->World->Prop}
  (hfin : ∀ G E a w N,HeadInv .any ops n G->(∀ j,j<n->G.getD j true=true)->ops.size-n<=N->Inv η ops E0 st.nx top st.lo base nt w0 st.tm st.hp V (fun j=>j<n) E a w->wpAnyIn (FW ro) m P .any ops Q N G a w):
  ∀ (N:Nat) (G:Array Bool) (E:Emb) (a:Act) (w:World),HeadInv .any ops n G->((List.range n).countP fun j => !G.getD j true)+(ops.size-n)<=N->
  Inv η ops E0 st.nx top st.lo base nt w0 st.tm st.hp V (fun j=>j<n/\G.getD j true=true) E a w->wpAnyIn (FW ro) m P .any ops Q N G a w:=by
 have haft : ∀ i,i<n -> ∀ o,ops[i]? = some o -> ∀ j∈cN o,j<n:=fun i hi=>S0 _ _ hF.ord (fun _ h=>by cases h) i (hF.all i hi)
 have full : ∀ (N:Nat) (G:Array Bool) (E:Emb) (a:Act) (w:World),HeadInv .any ops n G->ops.size-n<=N->(∀ j,j<n->G.getD j true=true)->Inv η ops E0 st.nx top st.lo base nt w0 st.tm st.hp V (fun j=>j<n/\G.getD j true=true) E a w->wpAnyIn (FW ro) m P .any ops Q N G a w:=by
  intro N G E a w hinv hf hlist hI;refine hfin G E a w N hinv hlist hf ?_
  have:(fun j=>j<n/\G.getD j true=true)=(fun j=>j<n):=by funext j;exact propext ⟨fun h=>h.1,fun h=>⟨h,hlist j h⟩⟩
  rw [←this];exact hI
 intro N
 induction N with
 | zero=>
  intro G E a w hinv hf hI
  have hz:((List.range n).countP fun j => !G.getD j true)=0:=by omega
  exact full 0 G E a w hinv (by omega) (fun j hj=>by
   have:=List.countP_eq_zero.1 hz j (List.mem_range.2 hj)
   simpa using this) hI
 | succ f ih'=>
  intro G E a w hinv hf hI
  by_cases hex : ∃ i,i<n /\ ¬ G.getD i true=true
  ·obtain ⟨i0,hi0,hun0⟩:=hex
   have hun0':G.getD i0 true=false:=by cases h:G.getD i0 true with | false=>rfl | true=>exact absurd h hun0
   have tog : ∀ j,j<n->(G.getD j true=true↔G.getD j false=true):=fun j hj=>by
    have:j<G.size:=by rw [hinv.size];have:=hF.le;omega
    simp [this]
   have hltn : ∀ i∈Region.ready .any ops G,i<n:=by
    intro i hi;obtain ⟨_,oi,g2,_⟩:=mem_ready.1 hi
    have hilt:=(Array.getElem?_eq_some_iff.1 g2).1
    rcases hF.tail with hF | ⟨hs,hc,hn,_⟩
    ·omega
    ·rcases Nat.lt_or_ge i n with h | h
     ·exact h
     ·exact absurd hi (tail_waits hs hc hn hinv _ i0 rfl hi0 hun0' i h)
   have hclosed:tQ ops (fun j=>j<n/\G.getD j true=true):=by
    intro k ok hk hok j hj
    have hjn:=haft k hk.1 ok hok j hj
    obtain ⟨e,he,hb,rfl⟩:=cF.1 hj;exact ⟨hjn,(tog _ hjn).2 (hinv.closed k ok hok ((tog k hk.1).1 hk.2) e he hb)⟩
   refine ⟨fun h0 => ?_,fun i hi => ?_⟩
   ·obtain ⟨i,o,h1,h2,h3,h4⟩:=HO (S:=fun j=>j<n/\G.getD j true=true) _ _ hF.ord (fun _ h=>by cases h) ⟨i0,hF.all i0 hi0,fun h=>hun0 h.2⟩
    have hin:i<n:=hR.lt i (by
     rcases Nat.lt_or_ge i n with h | h
     ·exact ai i h
     ·exfalso
      have : ∀ (l J:List Nat),jM ops.toList n l J=true -> ∀ k∈l,k<n:=by
       intro l
       induction l with
       | nil=>intro _ _ k hk;cases hk
       | cons x l ihl=>
        intro J hg k hk;obtain ⟨g1,_,_,g4⟩:=kL hg
        cases hk with
        | head=>exact g1
        | tail _ hk=>exact ihl _ g4 k hk
      exact absurd (this _ _ hF.ord i h1) (by omega))
    have:i∈Region.ready .any ops G:=by
     refine mem_ready.2 ⟨?_,o,h3,fun e he hb => ?_⟩
     ·cases h:G.getD i true with
      | false=>rfl
      | true=>exact absurd ⟨hin,h⟩ h2
     ·obtain ⟨q1,q2⟩:=h4 e.on (cF.2 ⟨e,he,hb,rfl⟩);exact (tog _ q1).1 q2
    rw [h0] at this;cases this
   ·have hin:=hltn i hi
    obtain ⟨hun,o,ho,hw⟩:=mem_ready.1 hi;obtain ⟨o',pc,W,e1,e2,e3,e4⟩:=hR.word i (ai i hin)
    have:o'=o:=Option.some.inj (e1.symm.trans ho)
    subst this
    have haft' : ∀ j∈cN o',j<n/\G.getD j true=true:=fun j hj=>by
     have hjn:=haft i hin o' ho j hj
     obtain ⟨e,he,hb,rfl⟩:=cF.1 hj;exact ⟨hjn,(tog _ hjn).2 (hw e he hb)⟩
    obtain ⟨_,S,_,s2,s3⟩:=MV (ro:=ro) (m:=m) hC ac hI hclosed (fun j hj=>hj.1) hF.le (fun h=>by rw [hun] at h;exact absurd h.2 (by simp)) (by omega) ho haft'
     (fun d hd j oj hj ad hjd=>by
      have:=hF.uniq i j o' oj d hin hj.1 ho ad hd hjd
      subst this;rw [hun] at hj;exact absurd hj.2 (by simp)) e3 e2 e4
    refine s3 Q _ fun a' w' hS => ?_
    obtain ⟨E',hI'⟩:=s2 a' w' hS;refine ih' (G.setIfInBounds i true) E' a' w' (hinv.set hi hin) ?_ ?_
    ·have:=(S1 hun (List.range n)).2 (List.mem_range.2 hin)
     omega
    ·have:(fun j=>(j<n/\G.getD j true=true)∨j=i)=(fun j=>j<n/\(G.setIfInBounds i true).getD j true=true):=by
      funext j
      by_cases hij:i=j
      ·subst hij
       have hlt:i<G.size:=by rw [hinv.size];have:=hF.le;omega
       simp [hlt,hin]
      ·rw [getD_set_ne true hij];exact propext ⟨fun h=>h.resolve_right (Ne.symm hij),.inl⟩
     rw [←this];exact hI'
  ·exact full (f+1) G E a w hinv (by omega) (fun j hj=>Classical.byContradiction fun h=>hex ⟨j,hj,h⟩) hI
end
end Go.Ex
namespace Go.Ex
open Go Go.RowKit
open Nat (le_of_ble_eq_true)
noncomputable section
theorem bG {p:Nat->Bool} : ∀ {m:Nat},aH p m=true -> ∀ i,i<m->p i=true
 | 0,_,i,hi=>absurd hi (Nat.not_lt_zero _)
 | m+1,h,i,hi=>by
  simp only [aH,Bool.and_eq_true] at h
  rcases Nat.lt_or_ge i m with hlt | hge
  ·exact bG h.2 i hlt
  ·have:i=m:=by omega
   subst this;exact h.1
theorem z9 {p:Nat->Bool} : ∀ {m:Nat},JJ p m=true -> ∃ i,i<m/\p i=true
 | 0,h=>by cases h
 | m+1,h=>by
  simp only [JJ,Bool.or_eq_true] at h
  rcases h with h | h
  ·exact ⟨m,Nat.lt_succ_self _,h⟩
  ·obtain ⟨i,hi,hp⟩:=z9 h;exact ⟨i,by omega,hp⟩
theorem iO {α:Type} : ∀ l:List α,fJ l=l.length
 | []=>rfl
 | _::l=>by simp [fJ,iO l]
theorem MX {α:Type} : ∀ (n:Nat) (l:List α),SX n l=l.drop n
 | 0,l=>by cases l<;>rfl
 | n+1,[]=>rfl
 | n+1,x::l=>by simp [SX,MX n l]
theorem C0 {o:Option Nat} {i:Nat} (h:WH o i=true):o=some i:=by
 cases o with
 | none=>cases h
 | some j=>rw [Nat.eq_of_beq_eq_true h]
theorem iC {ops:Array Oper} {j i:Nat} (h:tL ops.toList j i=true):Region.waitsFor .any ops j i=true:=by
 unfold tL at h;split at h
 ·rename_i o ho;rw [cD,Array.getElem?_toList] at ho;obtain ⟨k,hk,hki⟩:=List.any_eq_true.1 h
  have:=Nat.eq_of_beq_eq_true hki;subst this
  obtain ⟨e,he,hb,hon⟩:=cF.1 hk;unfold Region.waitsFor;simp only [ho];exact Array.any_eq_true'.2 ⟨e,he,by simp [hb,hon]⟩
 ·cases h
theorem oM {ops:Array Oper} {n:Nat} (hn:n<=ops.size) (h:sU ops.toList n (fJ ops.toList)=true):kV ops n:=by
 have hm:fJ ops.toList=ops.size:=by rw [iO];simp
 rw [hm] at h;simp only [sU,Bool.and_eq_true,Bool.or_eq_true] at h;obtain ⟨⟨⟨h1,h6⟩,h7⟩,h2⟩:=h
 have own : ∀ k ok d,k<n->ops[k]? = some ok->ok.dst=some d->CU d 0 ops.toList=some k:=by
  intro k ok d hk hok hd
  have:=bG h1 k hk
  rw [cD,Array.getElem?_toList,hok] at this;simp only [hd,Bool.and_eq_true] at this;exact C0 this.1
 refine ⟨?_,?_,hn,h6,fun i hi=>rW.1 (bG h7 i hi),?_⟩
 ·intro i j oi oj d hi hj hoi ad hdi hdj;exact Option.some.inj ((own i oi d hi hoi hdi).symm.trans (own j oj d hj ad hdj))
 ·intro i o t hi ho ht k ok hk hok hdk
  have:=bG h1 i hi
  rw [cD,Array.getElem?_toList,ho] at this;simp only [Bool.and_eq_true] at this
  have:=List.all_eq_true.1 this.2 t ht
  rw [own k ok t hk hok hdk] at this;simp only [Bool.or_eq_true] at this
  rcases this with ((h | h) | h) | h
  ·have:=le_of_ble_eq_true h;omega
  ·obtain ⟨o',ho',e,he,hb,hon⟩:=Region.waitsFor_spec (iC h)
   have:o'=o:=Option.some.inj (ho'.symm.trans ho)
   subst this;exact .inl (cF.2 ⟨e,he,hb,hon⟩)
  ·obtain ⟨o',ho',e,he,hb,hon⟩:=Region.waitsFor_spec (iC h)
   have:o'=ok:=Option.some.inj (ho'.symm.trans hok)
   subst this;exact .inr (.inl (cF.2 ⟨e,he,hb,hon⟩))
  ·exact .inr (.inr (Nat.eq_of_beq_eq_true h))
 ·rcases h2 with h2 | ⟨⟨⟨h2,h3⟩,h4⟩,h5⟩
  ·exact .inl (Nat.eq_of_beq_eq_true h2)
  ·refine .inr ⟨?_,?_,le_of_ble_eq_true h4,?_⟩
   ·unfold Region.sinkB;refine List.all_eq_true.2 fun i hi => ?_
    have hi:=List.mem_range.1 hi
    obtain ⟨j,hj,hj2⟩:=z9 (bG h2 i hi);simp only [Bool.and_eq_true] at hj2;refine List.any_eq_true.2 ⟨j,List.mem_range.2 hj,?_⟩;simp only [Bool.and_eq_true,decide_eq_true_eq];exact ⟨le_of_ble_eq_true hj2.1,iC hj2.2⟩
   ·unfold Region.chainB;refine List.all_eq_true.2 fun t ht => ?_
    have:=bG h3 t (List.mem_range.1 ht)
    simp only [Bool.or_eq_true,decide_eq_true_eq] at this ⊢;exact this.imp le_of_ble_eq_true iC
   ·intro t o hnt ho j hj
    have:=bG h5 t (Array.getElem?_eq_some_iff.1 ho).1
    rw [cD,Array.getElem?_toList,ho] at this;simp only [Bool.or_eq_true] at this
    rcases this with h | h
    ·have:t<n:=le_of_ble_eq_true h;omega
    ·exact le_of_ble_eq_true (List.all_eq_true.1 h j hj)
theorem tR (p:Oper->Bool) : ∀ l:List Oper,kK p l<=l.length
 | []=>Nat.le_refl _
 | o::l=>by
  simp only [kK,List.length_cons]
  cases p o with
  | true=>simp
  | false=>have:=tR p l;simp;omega
theorem QB {ops:Array Oper} {n:Nat} (h:WI ops.toList=some n):kV ops n:=by
 unfold WI at h
 cases h1:sU ops.toList (kK CT ops.toList) (fJ ops.toList) with
 | true=>
  rw [h1] at h;cases h;exact oM (by have:=tR CT ops.toList;simpa using this) h1
 | false=>
  rw [h1] at h
  cases h2:sU ops.toList (kK BC ops.toList) (fJ ops.toList) with
  | true=>
   rw [h2] at h;cases h;exact oM (by have:=tR BC ops.toList;simpa using this) h2
  | false=>
   rw [h2] at h
   cases h3:sU ops.toList (fJ ops.toList) (fJ ops.toList) with
   | true=>
    rw [h3] at h;cases h;exact oM (by rw [iO];simp) h3
   | false=>rw [h3] at h;cases h
theorem UY {C:Cx} {ops:Array Oper} {n:Nat} (h:WJ C ops.toList=some n):kV ops n:=by
 unfold WJ at h
 cases h1:(CV C ops.toList&&sU ops.toList (fJ ops.toList-1) (fJ ops.toList)) with
 | true=>
  rw [h1] at h;cases h;simp only [Bool.and_eq_true] at h1;exact oM (by rw [iO];simp) h1.2
 | false=>
  rw [h1] at h;exact QB h
theorem HP {hp:T Blk} : ∀ {wl:List Wr},(∀ r∈wl,r.x<65535) -> ∀ x b,(MS hp wl).get x=some b->(∃ r∈wl,r.x=x/\r.c=b)∨(hp.get x=some b /\ ∀ r∈wl,r.x≠x)
 | [],_,x,b,h => .inr ⟨h,fun _ h=>by cases h⟩
 | r::wl,hl,x,b,h=>by
  simp only [MS] at h
  by_cases hrx:r.x=x
  ·subst hrx;rw [T.get_set_same _ _ _ (hl r (List.mem_cons_self ..))] at h
   cases h;exact .inl ⟨r,List.mem_cons_self ..,rfl,rfl⟩
  ·rw [T.get_set_ne _ _ _ _ hrx] at h
   rcases HP (fun q hq=>hl q (List.mem_cons_of_mem _ hq)) x b h with ⟨q,hq,e⟩ | ⟨h,hno⟩
   ·exact .inl ⟨q,List.mem_cons_of_mem _ hq,e⟩
   ·refine .inr ⟨h,fun q hq => ?_⟩
    cases hq with
    | head=>exact hrx
    | tail _ hq=>exact hno q hq
theorem pW {bk:T Blk} {nx:Nat} : ∀ {n:Nat},∀ p∈oJ bk nx n,∃ k b,bk.get k=some b/\p=(nx+k,b)
 | 0,p,hp=>by cases hp
 | n+1,p,hp=>by
  simp only [oJ] at hp;split at hp
  ·rename_i b hb
   cases hp with
   | head=>exact ⟨n,b,hb,rfl⟩
   | tail _ hp=>exact pW p hp
  ·exact pW p hp
theorem HQ {C:Cx} {P:Program} {η:Env} (hC:C.Ok P η) {ih:FI->List Sv->St->aB (Sv × St)} (ac:eO P η ih) {nt:Nat} {ops:Array Oper} {st X:St} (h:(SY C ih nt ops.toList st).at_ η=some X) {E:Emb} {base:Nat} {w0:World} {a:Act} {w:World} (hS:cP η E nt base w0 st a w) {Q:Exit->Act->World->Prop}
  (hK : ∀ E' a' w',aJ E E' st.nx->st.nx<=X.nx->X.lo=st.lo->cP η E' nt base w0 X a' w'->Q .normal a' w') (ro:Option Nat) (m:Nat):wpAnyIn (FW ro) m P .any ops Q ops.size (Array.replicate ops.size false) a w:=by
 unfold SY at h;split at h
 ·rename_i n hcut
  have hF:=UY hcut
  cases hb:Nat.ble (st.nx+n) 65000 with
  | false=>rw [hb] at h;cases h
  | true=>
   rw [hb] at h
   have hlim:=le_of_ble_eq_true hb
   obtain ⟨⟨tm,bk,wl,pc⟩,h1,h2⟩:=aB.at_bind h
   have hd:aF η E st.hp st.nx st.lo base w:=hS.hr
   have hH0:aF η E st.hp (st.nx+n) st.lo base w:=⟨fun i b h=>Nat.lt_of_lt_of_le (hd.dom i b h) (Nat.le_add_right _ _),hd.cell,hd.inj,hd.hi,hd.top,hd.bot,(fun i hi=>hd.free i (by omega)),hlim,hd.zw,hd.zd,(fun k hk=>hd.rfree k (by omega)),hd.dk,hd.rn,hd.mt.keep (fun _ _=>rfl) (Nat.le_add_right _ _) hd.mt.hi (Nat.le_refl _) (fun _ _ _ _ _ _ _ _ hg=>⟨hg,rfl⟩) (fun _ _ _ h=>h) (fun _ _=>rfl) (fun _ _=>rfl) hd.mt.z hd.mt.own⟩
   have hI0 : ∀ (V:bP) (L:Nat->Prop),(∀ j,L j->False)->Inv η ops E st.nx (st.nx+n) st.lo base nt w0 st.tm st.hp V L E a w:=fun V L hL=>
    ⟨aJ.refl _ _,fun t s ht _=>hS.fr t s ht,fun j _ _ hj=>(hL j hj).elim,⟨st.hp,fun _ _ h _=>h,fun j _ hj=>(hL j hj).elim,fun j _ _ hj=>(hL j hj).elim,hH0⟩,fun j _ _=>⟨hd.free _ (by omega),hd.rfree _ (by omega)⟩,hS.sz,hS.df,hS.bl⟩
   obtain ⟨ae,V,J,hR,hsub⟩:=CZ (E0:=E) (base:=base) (w0:=w0) hC ac hS.nt rfl hlim hF (HL n ops.toList) [] ⟨fun _=>none,fun _=>none,fun _=>none⟩ st.tm .nil [] st.pc tm bk wl pc hF.ord h1 hS.pc
    ⟨fun t s ht => .inr ⟨ht,fun k ok hk=>(by cases hk)⟩,fun k b hk=>(by simp [T.get_nil] at hk),fun r hr=>(by cases hr),fun k x c hk=>(by cases hk),fun i hi=>(by cases hi),fun i o hi=>(by cases hi),fun i hi=>(by cases hi)⟩
    ⟨E,a,w,hI0 _ _ fun j hj=>by cases hj⟩
   have ai : ∀ i,i<n->i∈J:=fun i hi=>hsub i (.inr (hF.all i hi))
   refine aal (E0:=E) (top:=st.nx+n) (base:=base) (nt:=nt) (n:=n) (w0:=w0) hC ac rfl hF hR ai ?_ ops.size _ E a _ ?_ ?_ (hI0 _ _ ?_)
   ·intro G E1 a1 w1 N hinv hlist hfu hI;obtain ⟨hp,hp1,hp2,hp3,hH⟩:=hI.hp
    have hSt:cP η E1 nt base w0 ⟨tm,MS (fP st.hp (bif lE ops.toList||vJ ops.toList then oJ bk st.nx n else [])) wl,st.nx+n,st.lo,pc⟩ a1 w1:=by
     refine ⟨fun t s ht => ?_,hI.sz,hS.nt,hI.df.trans (congrArg Fix.l hI.ag.dl.symm),?_,hI.bl,Nat.le_trans hS.lo (Nat.le_add_right _ _),ae⟩
     ·rcases hR.tm t s ht with ⟨k,ok,hk,hok,hdk,hVk⟩ | ⟨h0,hno⟩
      ·obtain ⟨s',v,e1,e2,e3⟩:=hI.rc k ok t (hR.lt k hk) hok hdk;rw [hVk] at e1;cases e1;exact ⟨v,e2,e3⟩
      ·exact hI.old t s h0 fun k ok hk hok=>hno k ok (ai k hk) hok
     ·refine hH.sub fun x b hx => ?_
      rcases HP (fun r hr=>(hR.wk r hr).2.2) x b hx with ⟨r,hr,rfl,rfl⟩ | ⟨hx,hno⟩
      ·obtain ⟨q1,q2,_⟩:=hR.wk r hr;exact hp3 r.k r.x r.c (hR.lt _ q1) q2
      ·have hno' : ∀ k c,k<n->V.w k≠some (x,c):=fun k c hk hwk=>by
        obtain ⟨_,r,hr,_,hrx,_⟩:=hR.wr k x c hwk;exact hno r hr hrx
       have hmem : ∀ p∈(bif lE ops.toList||vJ ops.toList then oJ bk st.nx n else []),∃ k b,bk.get k=some b/\p=(st.nx+k,b):=fun p hp'=>by
        cases hc:(lE ops.toList||vJ ops.toList) with
        | true=>rw [hc] at hp';exact pW p hp'
        | false=>rw [hc] at hp';cases hp'
       rcases rX (fun p hp'=>by
        obtain ⟨k,b',hk,rfl⟩:=hmem p hp'
        have:=hR.lt k (hR.bk k b' hk).1
        simp only;omega) x b hx with ⟨p,hp',hpe⟩ | h
       ·obtain ⟨k,b',hk,hpe'⟩:=hmem p hp';rw [hpe] at hpe'
        cases hpe'
        obtain ⟨q1,q2⟩:=hR.bk k b hk;exact hp2 k b (hR.lt k q1) q2 hno'
       ·exact hp1 x b h hno'
    simp only at h2;rw [MX] at h2;refine WO hC ac hF Q (ops.toList.drop n) n _ X G N (fun j=>by simp [List.getElem?_drop]) (by have:=hF.le;simp;omega) (Nat.le_refl _) (by simp;omega) hinv.size ?_ h2 E1 base w0 a1 w1 hSt ?_
    ·intro j hj;refine ⟨fun h => ?_,hlist j⟩
     rcases Nat.lt_or_ge j n with hlt | hge
     ·exact hlt
     ·rw [hinv.tail j hge hj] at h;cases h
    ·intro E' a' w' hA hn' hlo' hS';exact hK E' a' w' (hI.ag.trans hA (Nat.le_add_right _ _)) (Nat.le_trans (Nat.le_add_right _ _) hn') hlo' hS'
   ·exact ⟨by simp,fun j oj _ hl=>(by rw [getD_replicate_false] at hl;cases hl),fun t _ ht=>getD_in (by simpa using ht) (getD_replicate_false _ _)⟩
   ·have:((List.range n).countP fun j => !(Array.replicate ops.size false).getD j true)<=n:=by
     refine Nat.le_trans List.countP_le_length ?_;simp
    have:=hF.le
    omega
   ·intro j hj
    have h1:=hj.2
    have:=hF.le
    have hlt:j<ops.size:=by omega
    simp [hlt] at h1
 ·cases h
section
variable {P:Program} {ops:Array Oper} {Q:Exit->Act->World->Prop}
def sW (P:Program)(o:Oper)(v:Value)(a:Act):Prop := ∀ w,(execOp a.eval o).run P w = .ok (.value v) w
theorem C1 {C:Cx} {η:Env} {E:Emb} (hC:C.Ok P η) {hp tm:T _} {a:Act} {pc W:PC} {o:Oper} {sv:Sv} (hp0:CW o.op=true) (hx : ∀ x∈o.op.operands,nI η E tm a x) (h:(qop C hp tm pc o.op).at_ η=some (sv,W)):
  W=pc /\ ∃ v,sv.den η E=some v/\sW P o v a:=by
 obtain ⟨dst,op,type,pos,after,guard⟩:=o;simp only at hx h hp0;unfold CW at hp0;split at hp0
 ·rename_i x;simp only [qop] at h;obtain ⟨h1,rfl⟩:=cR h;exact ⟨rfl,_,hx x (by simp [Op.operands]) _ h1,fun _=>rfl⟩
 ·rename_i x;simp only [qop] at h;split at h
  ·rename_i c hs
   have e:=hx x (by simp [Op.operands]) _ hs
   simp only [aB.at_,Option.some.injEq,Prod.mk.injEq] at h;obtain ⟨rfl,rfl⟩:=h;obtain ⟨b,o⟩:=c;obtain ⟨B,K,_,ev⟩:=kN e;exact ⟨rfl,_,e,fun _=>by simp [execOp,ev]⟩
  ·rename_i f cs hs
   have e:=hx x (by simp [Op.operands]) _ hs
   simp only [aB.at_,Option.some.injEq,Prod.mk.injEq] at h;obtain ⟨rfl,rfl⟩:=h;refine ⟨rfl,_,e,fun _ => ?_⟩
   simp only [Sv.den,Sc.den,Option.map_eq_some_iff] at e;obtain ⟨l,_,ev⟩:=e;simp [execOp,←ev]
  ·cases h
 ·rename_i t x f;simp only [qop] at h;split at h
  ·rename_i s hs
   rcases xR h with ⟨ob,h1,hb,rfl⟩ | h
   ·simp only [Option.map_eq_some_iff,Prod.mk.injEq] at h1;obtain ⟨s',h1,rfl,rfl⟩:=h1;obtain ⟨v,h2,h3⟩:=s0 hC h1 (hx x (by simp [Op.operands]) _ hs)
    exact ⟨rfl,v,h2,fun w=>dE (h3 w)⟩
   obtain ⟨h1,rfl⟩:=cR h;obtain ⟨v,h2,h3⟩:=p6 hC h1 (hx x (by simp [Op.operands]) _ hs)
   exact ⟨rfl,v,h2,fun w=>dE (h3 w)⟩
  ·cases h
 ·cases hp0
theorem AA {o:Oper} (h:gT o.op=true) (cs b):o.op ≠ .select cs b:=fun e=>by rw [e] at h;cases h
theorem AB {o:Oper} (h:gT o.op=true) (c):o.op ≠ .defer c:=fun e=>by rw [e] at h;cases h
theorem WP {ro:Option Nat} {m j:Nat} {oi oj:Oper} {v:Value} (hj:ops[j]? = some oj) (h1 : ∀ d,oi.dst=some d->d ∉ oj.looksAt ops) (h2 : ∀ d,oi.dst=some d->oj.dst≠some d) (h3 : ∀ d,oj.dst=some d->d ∉ oi.looksAt ops)
  (hsi:gT oi.op=true) (hsj:gT oj.op=true) (hQ : ∀ c a w,¬ Q (.panic c) a w) {K:Act->World->Prop} {a:Act} {w:World} (hy:sW P oi v a) (h:wpOpIn (FW ro) m P ops Q j K (a.put oi.dst v) w):
  wpOpIn (FW ro) m P ops Q j (fun a' w'=>sW P oi v a'/\K (a'.put oi.dst v) w') a w:=by
 have keep : ∀ (a:Act),sW P oi v a -> ∀ u,sW P oi v (a.put oj.dst u):=fun a hy u w=>by rw [execOp_put oi (AA hsi) a oj.dst u h3];exact hy w
 have qE : ∀ d,sW P oi v { a with defers:=d::a.defers }:=fun d=>hy
 unfold wpOpIn at *;simp only [hj] at *;rw [wanted_put oj a oi.dst v h1] at h;split
 ·rename_i hw;simp only [hw,if_true] at h;unfold Oper.wpIn at *;refine ⟨fun _ _=>trivial,?_⟩
  have h:=h.2
  rw [Oper.semAt_eq _ _ _ (AB hsj),execOp_put oj (AA hsj) a oi.dst v h1] at h;rw [Oper.semAt_eq _ _ _ (AB hsj)]
  generalize (execOp a.eval oj).run P w=r at *
  cases r with
  | ok x w'=>
   cases x<;>simp only [Oper.uponIn] at h ⊢
   case value u=>exact ⟨keep a hy u,by rw [←Act.put_comm a v u h2];exact h⟩
   case skip=>exact ⟨keep a hy _,by rw [←Act.put_comm a v undef h2];exact h⟩
   case defer d=>
    refine ⟨keep _ (qE d) _,?_⟩;rw [←Act.put_comm _ v undef h2,←Act.put_defers];exact h
   case enter f args=>
    refine ⟨h.1,CallsIn.mono h.2 fun e w'' he => ?_⟩
    cases e with
    | returned u=>exact ⟨keep a hy u,by rw [←Act.put_comm a v u h2];exact he⟩
    | panicked c=>exact absurd he (hQ _ _ _)
    | outgrown=>exact he
   case row row args=>exact ⟨h.1,RowsIn.mono h.2 fun u w'' he=>⟨keep a hy u,by rw [←Act.put_comm a v u h2];exact he⟩⟩
   case round l f tmps assign body=>
    refine ⟨h.1,RoundIn.mono h.2 fun e w'' he => ?_⟩
    cases e with
    | returned u=>exact ⟨keep a hy u,by rw [←Act.put_comm a v u h2];exact he⟩
    | panicked c=>exact absurd he (hQ _ _ _)
    | outgrown=>exact he
  | halt x w'=>
   cases x<;>simp only [Oper.uponIn] at h ⊢
   case panic u=>exact absurd h (hQ _ _ _)
 ·rename_i hw;simp only [hw] at h;exact ⟨fun _ _=>trivial,keep a hy _,by rw [←Act.put_comm a v undef h2];exact h.2⟩
def QC (ops:Array Oper)(oi oj:Oper):Prop:=(∀ d,oi.dst=some d->d ∉ oj.looksAt ops)/\(∀ d,oi.dst=some d->oj.dst≠some d) /\ ∀ d,oj.dst=some d->d ∉ oi.looksAt ops
theorem sW.opIn {ro:Option Nat} {m i:Nat} {oi:Oper} {v:Value} {a:Act} {w:World} {K:Act->World->Prop} (hi:ops[i]? = some oi) (hg:oi.guard=none) (hp:gT oi.op=true) (hy:sW P oi v a) (h:K (a.put oi.dst v) w):wpOpIn (FW ro) m P ops Q i K a w:=by
 unfold wpOpIn;simp only [hi,Region.wanted,hg,if_true];exact fB (hy w) h
theorem HR {ro:Option Nat} {m i:Nat} {oi:Oper} {v:Value} (hi:ops[i]? = some oi) (hpl : ∀ (j:Nat) (o:Oper),ops[j]? = some o->gT o.op=true) (hg:oi.guard=none) (hQ : ∀ c a w,¬ Q (.panic c) a w):
  ∀ (N:Nat) (G:Array Bool) (a:Act) (w:World),(∀ j oj,ops[j]? = some oj->j≠i->G.getD j true=false->i ∉ cN oj->QC ops oi oj)->i∈Region.ready .any ops G->sW P oi v a->
   wpAnyIn (FW ro) m P .any ops Q N (G.setIfInBounds i true) (a.put oi.dst v) w->wpAnyIn (FW ro) m P .any ops Q (N+1) G a w:=by
 intro N
 induction N with
 | zero=>
  intro G a w _ hr hy H;refine ⟨fun h=>(by rw [h] at hr;cases hr),fun j hj => ?_⟩
  by_cases hji:j=i
  ·subst hji;exact hy.opIn hi hg (hpl _ _ hi) H
  ·have:=ready_mono hj hji
   rw [H.1] at this
   cases this
 | succ N ih=>
  intro G a w hfree hr hy H;refine ⟨fun h=>(by rw [h] at hr;cases hr),fun j hj => ?_⟩
  by_cases hji:j=i
  ·subst hji;exact hy.opIn hi hg (hpl _ _ hi) H
  ·have h1:=H.2 j (ready_mono hj hji)
   obtain ⟨hjun,oj,ad,ai⟩:=mem_ready.1 hj
   have hnot:i ∉ cN oj:=fun hm=>by
    obtain ⟨e,he,hb,heq⟩:=cF.1 hm
    have h1:=ai e he hb
    have h0:=(mem_ready.1 hr).1
    rw [heq,getD_both h0] at h1
    cases h1
   obtain ⟨q1,q2,q3⟩:=hfree j oj ad hji hjun hnot
   have h2:=WP ad q1 q2 q3 (hpl _ _ hi) (hpl _ _ ad) hQ hy h1
   have hfree' : ∀ k ok,ops[k]? = some ok->k≠i->(G.setIfInBounds j true).getD k true=false->i ∉ cN ok->QC ops oi ok:=fun k ok hk hki hun hno=>by
    refine hfree k ok hk hki ?_ hno
    by_cases hjk:j=k
    ·subst hjk;exact hjun
    ·rw [getD_set_ne true hjk] at hun;exact hun
   refine wpOpIn_mono (fun a' w' h3=>ih (G.setIfInBounds j true) a' w' hfree' (ready_mono hr (Ne.symm hji)) h3.1 ?_) h2
   rw [Array.setIfInBounds_comm _ _ hji];exact h3.2
end
theorem lH {l:List Nat} {i:Nat}:m6 l i=true↔i∈l:=rW
theorem fQ {l:List Nat} {i:Nat}:m6 l i=false↔i ∉ l:=by
 rw [←lH]
 cases m6 l i<;>simp
theorem AC {ops:Array Oper} {o:Oper} {d:Tmp} (h:d∈o.looksAt ops):d∈eX ops.toList o:=by
 unfold Oper.looksAt at h
 rcases List.mem_append.1 h with h | h
 ·obtain ⟨x,hx,hd⟩:=List.mem_filterMap.1 h
  cases x<;>simp at hd
  subst hd;exact iB _ _ _ (tO hx)
 ·unfold eX;split at h
  ·rename_i g b hg;simp only [hg]
   have:nE ops.toList g=some d:=by
    unfold nE;rw [cD,Array.getElem?_toList]
    cases ho:ops[g]? with
    | none=>rw [ho] at h;simp at h
    | some og=>rw [ho] at h;simpa using h
   rw [this];exact List.mem_cons_self ..
  ·cases h
theorem AD {d:Option Tmp} {l:List Tmp} (h:JK d l=true) : ∀ e,d=some e->e ∉ l:=fun e he hm=>by
 subst he;simp only [JK,lH.2 hm] at h
 cases h
theorem AE {ops:Array Oper} {x y:Oper} (h:P9 ops.toList x y=true):QC ops x y:=by
 simp only [P9,Bool.and_eq_true] at h;obtain ⟨h1,h2,h3⟩:=h;refine ⟨fun d hd hm=>AD h1 d hd (AC hm),fun d hd he => ?_,fun d hd hm=>AD h2 d hd (AC hm)⟩
 rw [hd,he] at h3;simp [abh] at h3
theorem xY {C:Cx} {P:Program} {η:Env} (hC:C.Ok P η) {nt:Nat} {ops:Array Oper} {Q:Exit->Act->World->Prop} {ro:Option Nat} {m:Nat} (hpl : ∀ (j:Nat) (o:Oper),ops[j]? = some o->gT o.op=true) (haf : ∀ (j:Nat) (o:Oper),ops[j]? = some o -> ∀ k∈cN o,k<ops.size) (hQ : ∀ c a w,¬ Q (.panic c) a w) {E:Emb} {base:Nat} {w0 w:World}:
  ∀ (l dn:List Nat) (st X:St) (G:Array Bool) (a:Act) (N:Nat),(pV C nt ops.toList ops.size l dn st).at_ η=some X->cP η E nt base w0 st a w->G.size=ops.size->(∀ j,j<ops.size->(G.getD j true=true↔j∈dn))->
   (∀ a' I,X.nx=st.nx->X.lo=st.lo->cP η E nt base w0 X a' w->I.size=ops.size->(∀ j,j<ops.size->(I.getD j true=true↔j∈dn∨j∈l))->wpAnyIn (FW ro) m P .any ops Q N I a' w)->
   wpAnyIn (FW ro) m P .any ops Q (N+l.length) G a w
 | [],dn,st,X,G,a,N,h,hS,hsz,aa,hK=>by
  cases h
  exact hK a G rfl rfl hS hsz fun j hj=>by rw [aa j hj];simp
 | i::l,dn,st,X,G,a,N,h,hS,hsz,aa,hK=>by
  simp only [pV,cD,Array.getElem?_toList] at h
  cases ho:ops[i]? with
  | none=>rw [ho] at h;cases h
  | some o=>
   rw [ho] at h;simp only at h
   cases hb:abL ops.toList ops.size i o dn with
   | false=>rw [hb] at h;cases h
   | true=>
    rw [hb] at h;obtain ⟨⟨sv,pc⟩,h1,h2⟩:=aB.at_bind h;obtain ⟨st1,h3,h4⟩:=aB.at_bind h2;simp only [abL,Bool.and_eq_true,Bool.not_eq_true'] at hb;obtain ⟨b1,b2,b3,b4,b5,b6⟩:=hb
    have b1:i<ops.size:=le_of_ble_eq_true b1
    have b4:=fQ.1 b4
    obtain ⟨rfl,v,hv,hy⟩:=C1 (P:=P) hC b3 (fun x _=>hS.fr.orel x) h1
    obtain ⟨hS1,n1,n2,_,_⟩:=cU h3 (hS.of_pc hS.pc) hv
    have hg:o.guard=none:=by
     unfold oK at b2;split at b2
     ·assumption
     ·cases b2
    have hun:G.getD i true=false:=by
     cases hc:G.getD i true with
     | false=>rfl
     | true=>exact absurd ((aa i b1).1 hc) b4
    have hlt:i<G.size:=by omega
    rw [List.length_cons,←Nat.add_assoc];refine HR ho hpl hg hQ _ G a w (fun j oj hj hji hju hno => ?_) (mem_ready.2 ⟨hun,o,ho,fun e he hb => ?_⟩) hy ?_
    ·have hjs:=(Array.getElem?_eq_some_iff.1 hj).1
     have:=bG b6 j hjs
     simp only [HM,Bool.or_eq_true] at this
     rcases this with h | h | h | h
     ·rw [(aa j hjs).2 (lH.1 h)] at hju;cases hju
     ·exact absurd (Nat.eq_of_beq_eq_true h) hji
     ·obtain ⟨o',ho',e,he,hb,hon⟩:=Region.waitsFor_spec (iC h)
      have:o'=oj:=Option.some.inj (ho'.symm.trans hj)
      subst this;exact absurd (cF.2 ⟨e,he,hb,hon⟩) hno
     ·rw [cD,Array.getElem?_toList,hj] at h;exact AE h
    ·have hm:=lH.1 (List.all_eq_true.1 b5 e.on (cF.2 ⟨e,he,hb,rfl⟩))
     have hlt':=haf i o ho e.on (cF.2 ⟨e,he,hb,rfl⟩)
     have:=(aa e.on hlt').2 hm
     have hes:e.on<G.size:=by omega
     simp [hes] at this ⊢;exact this
    ·refine xY hC hpl haf hQ l (i::dn) st1 X _ _ N h4 hS1 (by simp [hsz]) (fun j hj => ?_) fun a' I e1 e2 e3 e4 e5=>hK a' I (e1.trans n1) (e2.trans n2) e3 e4 fun j hj => ?_
     ·by_cases hij:i=j
      ·subst hij;simp [hlt]
      ·rw [getD_set_ne true hij,aa j hj,List.mem_cons];exact ⟨.inr,fun h=>h.resolve_left (Ne.symm hij)⟩
     ·rw [e5 j hj,List.mem_cons,List.mem_cons,or_assoc];exact or_left_comm
theorem C2 {ops:Array Oper} {R fl:List Nat} : ∀ {s:List Nat} {l:List Oper},HN ops.toList R fl s=some l->l.length=s.length /\ ∀ j i:Nat,s[j]? = some i -> ∃ o,ops[i]? = some o/\l[j]? = some (JL R fl o)
 | [],l,h=>by cases h;exact ⟨rfl,fun j i hj=>by simp at hj⟩
 | i::s,l,h=>by
  simp only [HN,cD,Array.getElem?_toList] at h;split at h
  ·rename_i o m h1 h2
   cases h
   obtain ⟨e1,e2⟩:=C2 h2;refine ⟨by simp [e1],fun j k hj => ?_⟩
   cases j with
   | zero=>simp at hj;subst hj;exact ⟨o,h1,rfl⟩
   | succ j=>simpa using e2 j k (by simpa using hj)
  ·cases h
structure S2 (ops U:Array Oper) (R fl:List Nat):Prop where
 a : ∀ i,i<ops.size->i ∉ fl->R[jV R i]? = some i
 b : ∀ j,j<R.length -> ∃ i,R[j]? = some i/\i<ops.size/\i ∉ fl/\jV R i=j
 sz:U.size=R.length
 c : ∀ j i:Nat,R[j]? = some i -> ∃ o,ops[i]? = some o/\U[j]? = some (JL R fl o)
 pl : ∀ (i:Nat) (o:Oper),ops[i]? = some o->gT o.op=true/\(∀ k∈cN o,k<ops.size) /\ ∀ j b,o.guard=some (j,b)->j<ops.size/\j ∉ fl
 n:R.length+fl.length=ops.size
theorem WQ {ops:Array Oper} {R fl:List Nat} {l:List Oper} (h:JM ops.toList ops.size R fl=true) (hl:HN ops.toList R fl R=some l):S2 ops l.toArray R fl:=by
 simp only [JM,Bool.and_eq_true] at h;obtain ⟨h1,h2,h3,h4⟩:=h;obtain ⟨e1,e2⟩:=C2 hl;refine ⟨fun i hi hf => ?_,fun j hj => ?_,by simpa using e1,fun j i hj => ?_,fun i o ho => ?_,?_⟩
 ·have:=bG h2 i hi
  rw [fQ.2 hf,Bool.false_or,cD] at this;exact C0 this
 ·have:=bG h3 j (by rw [iO];exact hj)
  rw [cD] at this;split at this
  ·rename_i i hi;simp only [Bool.and_eq_true,Bool.not_eq_true'] at this;exact ⟨i,hi,le_of_ble_eq_true this.1,fQ.1 this.2.1,Nat.eq_of_beq_eq_true this.2.2⟩
  ·cases this
 ·obtain ⟨o,q1,q2⟩:=e2 j i hj;exact ⟨o,q1,by simpa using q2⟩
 ·have:=List.all_eq_true.1 h4 o (by
   have:=List.mem_of_getElem? (l:=ops.toList) (i:=i) (by rw [Array.getElem?_toList];exact ho)
   exact this)
  simp only [WK,Bool.and_eq_true] at this;refine ⟨this.1,fun k hk=>le_of_ble_eq_true (List.all_eq_true.1 this.2.1 k hk),fun j b hg => ?_⟩
  have h5:=this.2.2
  rw [hg] at h5;simp only [Bool.and_eq_true,Bool.not_eq_true'] at h5;exact ⟨le_of_ble_eq_true h5.1,fQ.1 h5.2⟩
 ·have:=Nat.eq_of_beq_eq_true h1
  rw [iO,iO] at this;exact this
theorem BD {l:Array Bool} {i:Nat} (h:i<l.size):l.getD i false=l.getD i true:=by simp [h]
theorem tS {ops U:Array Oper} {R fl:List Nat} (hF:S2 ops U R fl) {G I:Array Bool} (hsz:G.size=ops.size) (hsz':I.size=U.size) (hfl : ∀ i,i∈fl->i<ops.size->G.getD i true=true) (aa : ∀ i,i<ops.size->i ∉ fl->I.getD (jV R i) true=G.getD i true)
  {i:Nat} (hi:i<ops.size) (hf:i ∉ fl):i∈Region.ready .any ops G↔jV R i∈Region.ready .any U I:=by
 have hRi:=hF.a i hi hf
 obtain ⟨o,ho,ho'⟩:=hF.c _ _ hRi
 have hpos : ∀ k,k<ops.size->k ∉ fl->jV R k<I.size:=fun k hk hkf=>by
  rw [hsz',hF.sz];exact (List.getElem?_eq_some_iff.1 (hF.a k hk hkf)).1
 rw [mem_ready,mem_ready,aa i hi hf];refine and_congr_right fun _ => ?_
 constructor
 ·rintro ⟨o1,ho1,h⟩
  have:o1=o:=Option.some.inj (ho1.symm.trans ho)
  subst this;refine ⟨_,ho',fun e he hb => ?_⟩
  simp only [JL] at he;obtain ⟨e0,he0,rfl⟩:=List.mem_map.1 (List.mem_toArray.1 he);obtain ⟨q1,q2⟩:=List.mem_filter.1 he0
  have q2:=fQ.1 (by simpa using q2)
  have hb0:Region.binds .any e0=true:=hb
  have hlt:=(hF.pl i _ ho).2.1 e0.on (cF.2 ⟨e0,by simpa using q1,hb0,rfl⟩)
  have:=h e0 (by simpa using q1) hb0
  show I.getD (jV R e0.on) false=true
  rw [BD (hpos _ hlt q2),aa _ hlt q2,←BD (by omega)]
  exact this
 ·rintro ⟨o1,ho1,h⟩
  have:o1=JL R fl o:=Option.some.inj (ho1.symm.trans ho')
  subst this;refine ⟨o,ho,fun e he hb => ?_⟩
  have hlt:=(hF.pl i _ ho).2.1 e.on (cF.2 ⟨e,he,hb,rfl⟩)
  rw [BD (by omega)]
  by_cases hef:e.on∈fl
  ·exact hfl _ hef hlt
  ·have:=h { e with on:=jV R e.on } (by
    simp only [JL];refine List.mem_toArray.2 (List.mem_map.2 ⟨e,List.mem_filter.2 ⟨by simpa using he,?_⟩,rfl⟩)
    simp [fQ.2 hef]) hb
   rw [BD (hpos _ hlt hef),aa _ hlt hef] at this;exact this
theorem aam {P:Program} {ops U:Array Oper} {Q:Exit->Act->World->Prop} {F:Fence} {m:Nat} {R fl:List Nat} (hF:S2 ops U R fl) {i:Nat} (hi:i<ops.size) (hf:i ∉ fl) {K:Act->World->Prop} {a:Act} {w:World} (h:wpOpIn F m P U Q (jV R i) K a w):wpOpIn F m P ops Q i K a w:=by
 obtain ⟨o,ho,ho'⟩:=hF.c _ _ (hF.a i hi hf);unfold wpOpIn at *;rw [ho'] at h;rw [ho];simp only at h ⊢
 have hw:Region.wanted (JL R fl o) (yielded U a.tmps)=Region.wanted o (yielded ops a.tmps):=by
  unfold Region.wanted
  cases hg:o.guard with
  | none=>simp only [JL,hg,abM]
  | some g=>
   obtain ⟨j,b⟩:=g;simp only [JL,hg,abM];obtain ⟨q1,q2⟩:=(hF.pl i o ho).2.2 j b hg;obtain ⟨oj,hj,hj'⟩:=hF.c _ _ (hF.a j q1 q2)
   have:yielded U a.tmps (jV R j)=yielded ops a.tmps j:=by
    unfold yielded;simp only [hj,hj',Option.bind_some];rfl
   rw [this]
 rw [hw] at h;exact h
theorem WR {P:Program} {ops U:Array Oper} {Q:Exit->Act->World->Prop} {F:Fence} {m:Nat} {R fl:List Nat} (hF:S2 ops U R fl) : ∀ (N:Nat) (G I:Array Bool) (a:Act) (w:World),G.size=ops.size->I.size=U.size->(∀ i,i∈fl->i<ops.size->G.getD i true=true)->(∀ i,i<ops.size->i ∉ fl->I.getD (jV R i) true=G.getD i true)->
  wpAnyIn F m P .any U Q N I a w->wpAnyIn F m P .any ops Q N G a w:=by
 have hnil : ∀ (G I:Array Bool),G.size=ops.size->I.size=U.size->(∀ i,i∈fl->i<ops.size->G.getD i true=true)->(∀ i,i<ops.size->i ∉ fl->I.getD (jV R i) true=G.getD i true)->Region.ready .any ops G=[]->Region.ready .any U I=[]:=by
  intro G I h1 h2 h3 h4 h5
  cases hr:Region.ready .any U I with
  | nil=>rfl
  | cons j l=>
   have hj:j∈Region.ready .any U I:=by rw [hr];exact List.mem_cons_self ..
   obtain ⟨_,o,ho,_⟩:=mem_ready.1 hj;obtain ⟨i,q1,q2,q3,rfl⟩:=hF.b j (by rw [←hF.sz];exact (Array.getElem?_eq_some_iff.1 ho).1)
   have:=(tS hF h1 h2 h3 h4 q2 q3).2 hj
   rw [h5] at this;cases this
 have hin : ∀ (G:Array Bool),(∀ i,i∈fl->i<ops.size->G.getD i true=true) -> ∀ i∈Region.ready .any ops G,i<ops.size/\i ∉ fl:=fun G h3 i hi=>by
  obtain ⟨h0,o,ho,_⟩:=mem_ready.1 hi
  have hlt:=(Array.getElem?_eq_some_iff.1 ho).1
  exact ⟨hlt,fun hm=>by rw [h3 i hm hlt] at h0;cases h0⟩
 intro N
 induction N with
 | zero=>
  intro G I a w h1 h2 h3 h4 h;refine ⟨?_,h.2⟩
  cases hr:Region.ready .any ops G with
  | nil=>rfl
  | cons i l=>
   have hi:i∈Region.ready .any ops G:=by rw [hr];exact List.mem_cons_self ..
   obtain ⟨q1,q2⟩:=hin G h3 i hi
   have:=(tS hF h1 h2 h3 h4 q1 q2).1 hi
   rw [h.1] at this;cases this
 | succ N ih=>
  intro G I a w h1 h2 h3 h4 h;refine ⟨fun h0=>h.1 (hnil G I h1 h2 h3 h4 h0),fun i hi => ?_⟩
  obtain ⟨q1,q2⟩:=hin G h3 i hi
  have O:=(List.getElem?_eq_some_iff.1 (hF.a i q1 q2)).1
  refine aam hF q1 q2 (wpOpIn_mono (fun a' w' h'=>ih _ _ a' w' (by simp [h1]) (by simp [h2]) (fun k hk hlt => ?_) (fun k hk hkf => ?_) h') (h.2 _ ((tS hF h1 h2 h3 h4 q1 q2).1 hi)))
  ·rw [getD_set_ne true (fun e=>q2 (by rw [e];exact hk))]
   exact h3 k hk hlt
  ·by_cases hik:i=k
   ·subst hik
    have e1:i<G.size:=by omega
    have e2:jV R i<I.size:=by rw [h2,hF.sz];exact O
    simp [e1,e2]
   ·rw [getD_set_ne true hik,getD_set_ne true (fun e=>hik ?_),h4 k hk hkf]
    have q3:=hF.a i q1 q2
    rw [e,hF.a k hk hkf] at q3;exact (Option.some.inj q3).symm
theorem WS {C:Cx} {P:Program} {η:Env} (hC:C.Ok P η):JF P η (lG C):=by
 intro ih ac nt ops st X h E base w0 a w hS Q id hK ro m
 have hS1:cP η E nt base w0 st a w.drew:=⟨hS.fr,hS.sz,hS.nt,hS.df,hS.hr.drew,hS.bl.drew,hS.lo,hS.pc⟩
 unfold lG at h
 cases hu:abN C ops.toList with
 | false=>rw [hu] at h;exact wpIn_region_any hC.mixed (HQ hC ac h hS1 hK ro m)
 | true=>
  rw [hu] at h
  replace h:(WL C ih nt ops.toList st).at_ η=some X:=h
  unfold WL at h;simp only at h;split at h
  ·rename_i l hl
   have hm:fJ ops.toList=ops.size:=by rw [iO];simp
   rw [hm] at h
   cases hb:JM ops.toList ops.size (tN (tM 0 ops.toList []) 0 ops.toList) (tM 0 ops.toList []) with
   | false=>rw [hb] at h;cases h
   | true=>
    rw [hb] at h
    have hF:=WQ hb hl
    obtain ⟨st1,h1,h2⟩:=aB.at_bind h;refine wpIn_mono (Q:=fun x a w=>x = .normal/\Q x a w) (wpIn_region_any hC.mixed ?_) fun _ _ _ h=>h.2
    have key:=xY (ro:=ro) (m:=m) (Q:=fun x a w=>x = .normal/\Q x a w) hC (fun j o ho=>(hF.pl j o ho).1) (fun j o ho=>(hF.pl j o ho).2.1) (fun c a w h=>by cases h.1) (tM 0 ops.toList []) [] st st1 (Array.replicate ops.size false) a (tN (tM 0 ops.toList []) 0 ops.toList).length h1 hS1 (by simp) (fun j hj=>by simp [hj]) (fun a' I e1 e2 hS2 hsz aa => ?_)
    ·rw [hF.n] at key;exact key
    ·refine WR hF _ I (Array.replicate l.toArray.size false) a' _ hsz (by simp) (fun i hi hlt=>(aa i hlt).2 (.inr hi)) (fun i hi hf => ?_) ?_
     ·have O:=(List.getElem?_eq_some_iff.1 (hF.a i hi hf)).1
      have h5:I.getD i true=false:=by
       cases hc:I.getD i true with
       | false=>rfl
       | true=>
         rcases (aa i hi).1 hc with h | h
         ·cases h
         ·exact absurd h hf
      rw [h5]
      have:=hF.sz
      simp only [List.size_toArray] at this;simp [this,O]
     ·rw [←hF.sz];exact HQ hC ac (ops:=l.toArray) h2 hS2 (fun E' a2 w2 hA hn hlo hS3=>⟨rfl,hK E' a2 w2 (by rw [←e1];exact hA) (by rw [←e1];exact hn) (hlo.trans e2) hS3⟩) ro m
  ·cases h
end
end Go.Ex
