/-
 The executor: one operation, a region in the text's order.
-/
import Derived.Test.YtdpabnfcfakjeaaEx13a
import Derived.Test.YtdpabnfcfakjeaaExR2
import Derived.Test.YtdpabnfcfakjeaaExN
import Derived.Orders
import Derived.OrdersIn
import Derived.Tactics
namespace Go.Ex
open Go Go.RowKit
noncomputable section
variable {ro:Option Nat} {m:Nat}
def P6:List (Nat × Nat)->List Sv
 | []=>[]
 | a::l => .one (.ptr (some a))::P6 l
theorem pS {η:Env} {E:Emb} : ∀ {cs:List (Nat × Nat)} {l:List Value},b7 E cs=some l->aD η E (P6 cs)=some l
 | [],l,h=>by cases h;rfl
 | a::cs,l,h=>by
  simp only [b7] at h;split at h
  ·rename_i x r h1 h2
   cases h
   simp [P6,aD,Sv.den,Sc.den,h1,pS h2]
  ·cases h
theorem eP {η:Env} {E:Emb} : ∀ {l m:List Sv} {vs us:List Value},aD η E l=some vs->aD η E m=some us->aD η E (l++m)=some (vs++us)
 | [],m,vs,us,h,h'=>by cases h;exact h'
 | c::l,m,vs,us,h,h'=>by
  obtain ⟨v,vs',h1,h2,rfl⟩:=aI h;simp [aD,h1,eP h2 h']
def WC:Sc->Bool
 | .int _ (.tm _)=>false
 | .bool (.at_ _ _)=>false
 | .ostr _=>false
 | .fz _ _=>false
 | .own _ _=>false
 | _=>true
def HJ (tm:T Sv)(hp:T Blk)(args:List Operand):Bool:=
 match args with
 | [s,x]=>match evX tm s,evX tm x with
  | some (.one (.own _ _)),_=>false
  | _,some (.one (.slice (some (b,_)) _ _))=>match hp.get b with
   | some (.cells _ _ l)=>l.all WC
   | _=>false
  | _,some (.one (.fz _ _))=>false
  | _,_=>true
 | _=>true
def aae {α:Type} (o:Option Bool) (t:aB α):aB α:=
 match o with
 | none=>t
 | some b=>chk b t
theorem JC {α:Type} {η:Env} {o:Option Bool} {t:aB α} {r:α} (h:(aae o t).at_ η=some r):(∀ b,o=some b->b=true)/\t.at_ η=some r:=by
 cases o with
 | none=>exact ⟨(fun b e=>by cases e),h⟩
 | some b=>obtain ⟨h1,h2⟩:=eZ h;exact ⟨(fun c e=>by cases e;exact h1),h2⟩
def SU (C:Cx) (ih:FI->List Sv->St->aB (Sv × St)) (nt:Nat) (o:Oper) (st:St):aB St:=
 match o.op with
 | .store t x v=>match CE C st.tm st.hp st.lo t x v with
  | some hp=>gP nt o.dst .undef { st with hp:=hp }
  | none=>match gK C st.tm st.hp st.lo t x v with
   | some r=>chk r.1 (gP nt o.dst .undef { st with hp:=st.hp.set r.2.1 (some r.2.2) })
   | none=>match DU C st.tm st.hp st.nx st.lo t x v with
    | some r=>chk r.1 (gP nt o.dst .undef { st with hp:=r.2.1,nx:=r.2.2 })
    | none => .fail
 | .call c=>match c.callee with
  | .value fx=>match evX st.tm fx,evL st.tm c.args.toList with
   | some (.one (.fn f caps)),some args=>(P4 C ih f (args++P6 caps) st).bind fun r=>gP nt o.dst r.1 r.2
   | _,_ => .fail
  | .builtin .append=>match Nat.ble (st.nx+1) 65000 with
   | true=>match bif HJ st.tm st.hp c.args.toList then I9 C st.tm st.hp st.nx st.lo c.argTypes.toList c.args.toList else none with
    | some r=>gP nt o.dst r.sv { st with hp:=r.hp,nx:=st.nx+1 }
    | none=>match KA C st.tm st.hp st.nx st.lo c.argTypes.toList c.args.toList with
     | some r=>chk r.ck (match r.m0 with
      | none=>gP nt o.dst r.sv { st with hp:=r.hp,nx:=st.nx+1 }
      | some b => .fork (.tm b) (gP nt o.dst r.zero { st with hp:=r.hp0 }) (gP nt o.dst r.sv { st with hp:=r.hp,nx:=st.nx+1 }))
     | none => .fail
   | false => .fail
  | .builtin .copy=>match evL st.tm c.args.toList with
   | some l=>match MH C st.hp st.lo c.argTypes.toList l with
    | some r=>gP nt o.dst (.one (.int .i64 (.lit (.ofNat r.2)))) { st with hp:=r.1 }
    | none => .fail
   | none => .fail
  | _=>(qop C st.hp st.tm st.pc o.op).bind fun r=>gP nt o.dst r.1 { st with pc:=r.2 }
 | .mapUpdate t m k v=>match evX st.tm m,evX st.tm k,evX st.tm v with
  | some a,some b,some c=>match acV C st.hp st.lo t a b c with
   | some r=>gP nt o.dst .undef { st with hp:=st.hp.set r.1 (some r.2) }
   | none => .fail
  | _,_,_ => .fail
 | op=>match aop C st.tm op with
  | some r=>match Nat.ble (st.nx+1) 65000 with
   | true=>aae r.ck (gP nt o.dst (r.sv st.nx) { st with hp:=st.hp.set st.nx (some r.blk),nx:=st.nx+1 })
   | false => .fail
  | none=>(qop C st.hp st.tm st.pc op).bind fun r=>gP nt o.dst r.1 { st with pc:=r.2 }
def JD (η:Env)(nt:Nat)(st p:St)(E:Emb)(base:Nat)(w0:World) (X:(Act->World->Prop)->Prop):Prop:=
 ∀ K:Act->World->Prop,(∀ E' a' w',aJ E E' st.nx->st.nx<=p.nx->p.lo=st.lo->cP η E' nt base w0 p a' w'->K a' w')->X K
def FW (ro:Option Nat):Fence:={ Fence.wide with round:=ro }
theorem WD {P:Program} {f:FuncId} {args:Array Value} {w:World} {R:Ending->World->Prop} (h:Calls P f args w R) (k:Nat):CallsIn (FW ro) k P f args w R:=(callsIn_wide (n:=k)).2 h
theorem CQ {P:Program} {ρ:Operand->Value} {o:Oper} {w:World} {r:Result Next} (h:(execOp ρ o).run P w=r) (hd : ∀ d w',r ≠ .ok (.defer d) w') (hh : ∀ x w',r ≠ .halt x w'):o.semAt ro ρ=execOp ρ o:=by
 refine Oper.semAt_eq ro ρ o fun c hc => ?_
 have e:execOp ρ o=(do pure (.defer (←resolve ρ c o.type)):Sem Next):=by simp only [execOp,hc]
 rw [e,Sem.run_bind] at h
 cases hr:(resolve ρ c o.type).run P w with
 | ok d w1=>rw [hr] at h;exact hd d w1 h.symm
 | halt x w1=>rw [hr] at h;exact hh x w1 h.symm
theorem fB {P:Program} {o:Oper} {a:Act} {w w':World} {v:Value} {K:Act->World->Prop} {Q:Exit->Act->World->Prop} (h:(execOp a.eval o).run P w = .ok (.value v) w') (hk:K (a.put o.dst v) w'):o.wpIn (FW ro) m P a w K Q:=by
 refine ⟨fun _ _=>trivial,?_⟩
 show o.uponIn (FW ro) m P a K Q ((o.semAt ro a.eval).run P w)
 rw [CQ h (fun d w' e=>by cases e) (fun x w' e=>by cases e),h];exact hk
theorem pT {P:Program} {o:Oper} {a:Act} {w w':World} {K:Act->World->Prop} {Q:Exit->Act->World->Prop} (h:(execOp a.eval o).run P w = .ok .skip w') (hk:K (a.put o.dst undef) w'):o.wpIn (FW ro) m P a w K Q:=by
 refine ⟨fun _ _=>trivial,?_⟩
 show o.uponIn (FW ro) m P a K Q ((o.semAt ro a.eval).run P w)
 rw [CQ h (fun d w' e=>by cases e) (fun x w' e=>by cases e),h];exact hk
theorem pU {P:Program} {o:Oper} {a:Act} {w w':World} {f:FuncId} {args:Array Value} {K:Act->World->Prop} {Q:Exit->Act->World->Prop} (h:(execOp a.eval o).run P w = .ok (.enter f args) w') (hk:Calls P f args w' fun e w'' => ∃ v,e = .returned v/\K (a.put o.dst v) w''):o.wpIn (FW ro) m P a w K Q:=by
 refine ⟨fun _ _=>trivial,?_⟩
 show o.uponIn (FW ro) m P a K Q ((o.semAt ro a.eval).run P w)
 rw [CQ h (fun d w' e=>by cases e) (fun x w' e=>by cases e),h]
 refine ⟨(fun hs=>by cases hs),WD (hk.mono ?_) _⟩
 rintro e w'' ⟨v,rfl,hK⟩;exact hK
theorem MR {C:Cx} {P:Program} {η:Env} (hC:C.Ok P η) {nt:Nat} {o:Oper} {st p:St} (h:((qop C st.hp st.tm st.pc o.op).bind fun r=>gP nt o.dst r.1 { st with pc:=r.2 }).at_ η=some p)
  {E:Emb} {base:Nat} {w0:World} {a:Act} {w:World} (hS:cP η E nt base w0 st a w) (Q:Exit->Act->World->Prop):JD η nt st p E base w0 fun K=>o.wpIn (FW ro) m P a w K Q:=by
 obtain ⟨⟨sv,pc⟩,h1,h2⟩:=aB.at_bind h;obtain ⟨g1,v,g2,g3⟩:=SO hC hS.hr hS.pc (fun x _=>hS.fr.orel x) h1
 have hS':cP η E nt base w0 { st with pc:=pc } a w:=⟨hS.fr,hS.sz,hS.nt,hS.df,hS.hr,hS.bl,hS.lo,g1⟩
 obtain ⟨k1,k2,k3,k4,_⟩:=cU h2 hS' g2;exact fun K hK=>fB g3 (hK E _ _ (aJ.refl _ _) (by rw [k2];exact Nat.le_refl _) k3 k1)
theorem HK {C:Cx} {P:Program} {η:Env} (hC:C.Ok P η) {ih:FI->List Sv->St->aB (Sv × St)} (hih:eO P η ih) {nt:Nat} {o:Oper} {st p:St} (h:(SU C ih nt o st).at_ η=some p)
  {E:Emb} {base:Nat} {w0:World} {a:Act} {w:World} (hS:cP η E nt base w0 st a w) (Q:Exit->Act->World->Prop):JD η nt st p E base w0 fun K=>o.wpIn (FW ro) m P a w K Q:=by
 unfold SU at h;split at h
 ·rename_i t x v ho;split at h
  ·rename_i hp hhp;obtain ⟨w',r1,r2,r3⟩:=CF hC hS.hr hS.bl ho (fun x _=>hS.fr.orel x) hhp
   have hS':cP η E nt base w0 { st with hp:=hp } a w':=⟨hS.fr,hS.sz,hS.nt,hS.df,r2,r3,hS.lo,hS.pc⟩
   obtain ⟨k1,k2,k3,k4,_⟩:=cU (v:=undef) h hS' rfl;exact fun K hK=>pT r1 (hK E _ _ (aJ.refl _ _) (by rw [k2];exact Nat.le_refl _) k3 k1)
  ·split at h
   ·rename_i r hr;obtain ⟨hck,h⟩:=eZ h;obtain ⟨w',r1,r2,r3⟩:=s8 hC hS.hr hS.bl ho (fun x _=>hS.fr.orel x) hr hck
    have hS':cP η E nt base w0 { st with hp:=st.hp.set r.2.1 (some r.2.2) } a w':=⟨hS.fr,hS.sz,hS.nt,hS.df,r2,r3,hS.lo,hS.pc⟩
    obtain ⟨k1,k2,k3,k4,_⟩:=cU (v:=undef) h hS' rfl;exact fun K hK=>pT r1 (hK E _ _ (aJ.refl _ _) (by rw [k2];exact Nat.le_refl _) k3 k1)
   ·split at h
    ·rename_i r hr;obtain ⟨hck,h⟩:=eZ h;obtain ⟨w',E',r1,r2,r3,r4,r5,r6⟩:=J6 hC hS.hr hS.bl hS.lo ho (fun x _=>hS.fr.orel x) hr hck
     have hS':cP η E' nt base w0 { st with hp:=r.2.1,nx:=r.2.2 } a w':=⟨hS.fr.mono r3,hS.sz,hS.nt,hS.df.trans (congrArg Fix.l r2.dl.symm),r5,r6,Nat.le_trans hS.lo r4,hS.pc⟩
     obtain ⟨k1,k2,k3,k4,_⟩:=cU (v:=undef) h hS' rfl;exact fun K hK=>pT r1 (hK E' _ _ r2 (by rw [k2];exact r4) k3 k1)
    ·cases h
 ·rename_i c ho;split at h
  ·rename_i fx hcal;split at h
   ·rename_i f caps args hf hargs;obtain ⟨r,h1,h2⟩:=aB.at_bind h;obtain ⟨g3,g4,g5⟩:=P5 hC hih hS.pc hS.lo h1
    have ef:=hS.fr.orel fx _ hf
    simp only [Sv.den,Sc.den,Option.map_eq_some_iff] at ef;obtain ⟨l,hl,ef⟩:=ef
    have ea:=kJ (fun x _=>hS.fr.orel x) hargs
    have eall:=eP ea (pS (η:=η) hl)
    have hexec:(execOp a.eval o).run P w=(callFunc f (List.map a.eval c.args.toList++l).toArray).run P w:=by
     have e1:c.args.map a.eval=(List.map a.eval c.args.toList).toArray:=by rw [←Array.toList_map,Array.toArray_toList]
     simp only [execOp,ho,resolve,hcal,←ef,Deferred.ofValue,Sem.run_bind,Sem.run_pure,Result.andThen_ok,invoke,e1];simp
    have hfin : ∀ E' v w',aJ E E' st.nx->r.1.den η E'=some v->aF η E' r.2.hp r.2.nx st.lo base w'->Below base w0 w'->r.2.pc.holds η->st.nx<=r.2.nx->st.nx<=p.nx/\p.lo=st.lo/\cP η E' nt base w0 p (a.put o.dst v) w':=by
     intro E' v w' hA hv hH hB hp hn
     have hle:=hA.le hS.hr
     have hS':cP η E' nt base w0 r.2 a w':=⟨by rw [g4];exact hS.fr.mono hle,hS.sz,hS.nt,hS.df.trans (congrArg Fix.l hA.dl.symm),by rw [g3];exact hH,hB,by rw [g3];have:=hS.lo;omega,hp⟩
     obtain ⟨k1,k2,k3,k4,_⟩:=cU h2 hS' hv;exact ⟨by omega,k3.trans g3,k1⟩
    intro K hK
    rcases g5 E base w0 w _ hS.hr hS.bl eall with ⟨v,E',e1,e2,e3,e4,e5,e6⟩ | ⟨e1,e2⟩
    ·obtain ⟨q1,q2,q3⟩:=hfin E' v w e3 e1 e4 hS.bl e5 e6;exact fB (hexec.trans e2) (hK E' _ _ e3 q1 q2 q3)
    ·refine pU (hexec.trans e1) (e2.mono ?_);rintro e w' ⟨v,E',rfl,q1,q2,q3,q4,q5,q6⟩;obtain ⟨p1,p2,p3⟩:=hfin E' v w' q2 q1 q3 q4 q5 q6;exact ⟨v,rfl,hK E' _ _ q2 p1 p2 p3⟩
   ·cases h
  ·rename_i hcal;split at h
   ·rename_i hnx
    have hnx:=Nat.le_of_ble_eq_true hnx
    split at h
    ·rename_i r hr
     cases hcl:HJ st.tm st.hp c.args.toList with
     | false=>rw [hcl] at hr;cases hr
     | true=>
      rw [hcl] at hr;obtain ⟨w',v,E',r1,r2,r3,r4,r5,r6⟩:=MG hC hS.hr hS.bl hS.lo ho hcal (fun x _=>hS.fr.orel x) hnx hr
      have hS':cP η E' nt base w0 { st with hp:=r.hp,nx:=st.nx+1 } a w':=⟨hS.fr.mono r3,hS.sz,hS.nt,hS.df.trans (congrArg Fix.l r2.dl.symm),r4,r6,Nat.le_succ_of_le hS.lo,hS.pc⟩
      obtain ⟨k1,k2,k3,k4,_⟩:=cU h hS' r5;exact fun K hK=>fB r1 (hK E' _ _ r2 (by rw [k2];exact Nat.le_succ _) k3 k1)
    ·split at h
     ·rename_i r hr;obtain ⟨hck,h⟩:=eZ h;obtain ⟨g0,g1⟩:=N0 (w0:=w0) hC hS.hr hS.bl ho hcal (fun x _=>hS.fr.orel x) hnx hr hck
      have more:r.m0≠some true->(gP nt o.dst r.sv { st with hp:=r.hp,nx:=st.nx+1 }).at_ η=some p->JD η nt st p E base w0 fun K=>o.wpIn (FW ro) m P a w K Q:=by
       intro hm h;obtain ⟨w',v,E',r1,r2,r3,r4,r5,r6⟩:=g1 hm
       have hS':cP η E' nt base w0 { st with hp:=r.hp,nx:=st.nx+1 } a w':=⟨hS.fr.mono r3,hS.sz,hS.nt,hS.df.trans (congrArg Fix.l r2.dl.symm),r4,r6,Nat.le_succ_of_le hS.lo,hS.pc⟩
       obtain ⟨k1,k2,k3,k4,_⟩:=cU h hS' r5;exact fun K hK=>fB r1 (hK E' _ _ r2 (by rw [k2];exact Nat.le_succ _) k3 k1)
      split at h
      ·rename_i hm;exact more (by rw [hm];simp) h
      ·rename_i b hm;simp only [aB.at_,fK.den] at h
       cases b with
       | true=>
        obtain ⟨v,r1,r2,r3⟩:=g0 hm
        have hS':cP η E nt base w0 { st with hp:=r.hp0 } a w:=⟨hS.fr,hS.sz,hS.nt,hS.df,r3,hS.bl,hS.lo,hS.pc⟩
        obtain ⟨k1,k2,k3,k4,_⟩:=cU h hS' r2;exact fun K hK=>fB r1 (hK E _ _ (aJ.refl _ _) (by rw [k2];exact Nat.le_refl _) k3 k1)
       | false=>exact more (by rw [hm];simp) h
     ·cases h
   ·cases h
  ·rename_i hcal;split at h
   ·rename_i l hl;split at h
    ·rename_i r hr
     have ea:=kJ (fun x _=>hS.fr.orel x) hl
     obtain ⟨hp',k⟩:=r;obtain ⟨w',r1,r2,r3⟩:=HE hC hS.hr hS.bl hr ea o.type
     have hexec:(execOp a.eval o).run P w = .ok (.value (goInt k)) w':=by
      have e1:c.args.map a.eval=(List.map a.eval c.args.toList).toArray:=by rw [←Array.toList_map,Array.toArray_toList]
      simp only [execOp,ho,resolve,hcal,Sem.run_bind,Sem.run_pure,Result.andThen_ok,invoke,e1,builtin];simp [r1]
     have hS':cP η E nt base w0 { st with hp:=hp' } a w':=⟨hS.fr,hS.sz,hS.nt,hS.df,r2,r3,hS.lo,hS.pc⟩
     obtain ⟨k1,k2,k3,k4,_⟩:=cU (v:=goInt k) h hS' (by simp [Sv.den,Sc.den,Ix.den,goInt])
     exact fun K hK=>fB hexec (hK E _ _ (aJ.refl _ _) (by rw [k2];exact Nat.le_refl _) k3 k1)
    ·cases h
   ·cases h
  ·exact MR hC h hS Q
 ·rename_i t m' k v ho;split at h
  ·rename_i sa sb sc ha hb hc';split at h
   ·rename_i r hr;obtain ⟨w',r1,r2,r3⟩:=XQ hC hS.hr hS.bl hr (hS.fr.orel _ _ ha) (hS.fr.orel _ _ hb) (hS.fr.orel _ _ hc')
    have hS':cP η E nt base w0 { st with hp:=st.hp.set r.1 (some r.2) } a w':=⟨hS.fr,hS.sz,hS.nt,hS.df,r2,r3,hS.lo,hS.pc⟩
    obtain ⟨k1,k2,k3,k4,_⟩:=cU (v:=undef) h hS' rfl
    have hex:(execOp a.eval o).run P w = .ok .skip w':=by simp [execOp,ho,r1]
    exact fun K hK=>pT hex (hK E _ _ (aJ.refl _ _) (by rw [k2];exact Nat.le_refl _) k3 k1)
   ·cases h
  ·cases h
 ·split at h
  ·rename_i r hr;split at h
   ·rename_i hnx
    have hnx:=Nat.le_of_ble_eq_true hnx
    obtain ⟨hck,h⟩:=JC h;obtain ⟨obj,v,r1,r2⟩:=SQ hC (w:=w) (fun x _=>hS.fr.orel x) hr hck
    obtain ⟨r3,r4⟩:=r2 st.nx (hS.hr.free _ (Nat.le_refl _))
    have hH:=hS.hr.alloc (o:=obj) (m:=st.nx+1) (hS.hr.free _ (Nat.le_refl _)) (Nat.lt_succ_self _) (Nat.le_succ _) hnx (fun i hi=>hS.hr.free i (by omega)) r3 (SP hr)
    have hS':cP η (E.set st.nx (w.heap.size,r.K)) nt base w0 { st with hp:=st.hp.set st.nx (some r.blk),nx:=st.nx+1 } a (w.alloc obj):=
     ⟨hS.fr.mono (Emb.le_set (hS.hr.free _ (Nat.le_refl _))),hS.sz,hS.nt,hS.df,hH,hS.bl.alloc hS.hr.bot _,Nat.le_succ_of_le hS.lo,hS.pc⟩
    obtain ⟨k1,k2,k3,k4,_⟩:=cU h hS' r4;exact fun K hK=>fB r1 (hK _ _ _ (aJ.set E st.nx _) (by rw [k2];exact Nat.le_succ _) k3 k1)
   ·cases h
  ·exact MR hC h hS Q
def aaf (d:Tmp)(b:Bool)(tm:T Sv):T Sv:=tm.set d (some (.one (.bool (.lit b))))
theorem cP.of_lit {η:Env} {E:Emb} {nt base:Nat} {w0:World} {st:St} {a:Act} {w:World} (h:cP η E nt base w0 st a w) {d:Tmp} {bx:Bx} (hd:st.tm.get d=some (.one (.bool bx))):cP η E nt base w0 { st with tm:=aaf d (bx.den η) st.tm } a w:=by
 refine ⟨fun t sv ht => ?_,h.sz,h.nt,h.df,h.hr,h.bl,h.lo,h.pc⟩
 obtain ⟨v,h1,h2⟩:=h.fr d _ hd
 have hlt:d<a.tmps.size:=(Array.getElem?_eq_some_iff.1 h1).1
 have hnt:=h.nt
 have hsz:=h.sz
 by_cases htd:d=t
 ·subst htd
  have ht:(st.tm.set d (some (.one (.bool (.lit (bx.den η)))))).get d=some sv:=ht
  rw [T.get_set_same _ _ _ (Nat.lt_of_lt_of_le hlt (by omega))] at ht
  cases ht
  exact ⟨v,h1,by rw [←h2];rfl⟩
 ·have ht:(st.tm.set d (some (.one (.bool (.lit (bx.den η)))))).get t=some sv:=ht
  rw [T.get_set_ne _ _ _ _ htd] at ht;exact h.fr t sv ht
def abH (c:Operand)(b:Bool)(tm:T Sv):T Sv:=
 match c with
 | .tmp d=>aaf d b tm
 | _=>tm
theorem cP.of_litO {η:Env} {E:Emb} {nt base:Nat} {w0:World} {st:St} {a:Act} {w:World} (h:cP η E nt base w0 st a w) {c:Operand} {bx:Bx} (hd:evX st.tm c=some (.one (.bool bx))):cP η E nt base w0 { st with tm:=abH c (bx.den η) st.tm } a w:=by
 cases c with
 | tmp d=>exact h.of_lit hd
 | const v=>exact h
 | func f=>exact h
 | global g=>exact h
def nE (ops:List Oper)(j:Nat):Option Tmp:=
 match nth ops j with
 | some o=>o.dst
 | none=>none
def JE (C:Cx) (ih:FI->List Sv->St->aB (Sv × St)) (nt:Nat) (ops:List Oper) (o:Oper) (st:St):aB St:=
 match o.guard with
 | none=>SU C ih nt o st
 | some (j,want)=>match nE ops j with
  | some d=>match st.tm.get d with
   | some (.one (.bool bx))=>dP C.D st.pc bx fun b pc=>match b==want with
    | true=>SU C ih nt o { st with pc:=pc,tm:=aaf d b st.tm }
    | false=>gP nt o.dst .undef { st with pc:=pc,tm:=aaf d b st.tm }
   | some .undef=>gP nt o.dst .undef st
   | _ => .fail
  | none => .fail
theorem vH {ops:Array Oper} {o:Oper} {j:Nat} {want:Bool} {d:Tmp} {tmps:Array Value} (hg:o.guard=some (j,want)) (hd:nE ops.toList j=some d) (hv:tmps[d]? = some undef):Region.wanted o (yielded ops tmps)=false:=by
 have hy:yielded ops tmps j=none:=by
  unfold nE at hd;rw [cD,Array.getElem?_toList] at hd;unfold yielded
  cases hoj:ops[j]? with
  | none=>rw [hoj] at hd;cases hd
  | some oj=>
   rw [hoj] at hd;simp only at hd;simp only [Option.bind_some,hd,hv];rfl
 simp only [Region.wanted,hg,hy];rfl
theorem cP.of_pc {η:Env} {E:Emb} {nt base:Nat} {w0:World} {st:St} {a:Act} {w:World} (h:cP η E nt base w0 st a w) {pc:PC} (hp:pc.holds η):cP η E nt base w0 { st with pc:=pc } a w:=⟨h.fr,h.sz,h.nt,h.df,h.hr,h.bl,h.lo,hp⟩
theorem tJ {C:Cx} {P:Program} {η:Env} (hC:C.Ok P η) {ih:FI->List Sv->St->aB (Sv × St)} (hih:eO P η ih) {nt:Nat} {ops:Array Oper} {i:Nat} {o:Oper} {st p:St} (ho:ops[i]? = some o) (h:(JE C ih nt ops.toList o st).at_ η=some p)
  {E:Emb} {base:Nat} {w0:World} {a:Act} {w:World} (hS:cP η E nt base w0 st a w) (Q:Exit->Act->World->Prop):JD η nt st p E base w0 fun K=>wpOpIn (FW ro) m P ops Q i K a w:=by
 unfold JE at h;split at h
 ·rename_i hg
  have h4:=HK (ro:=ro) (m:=m) hC hih h hS Q
  intro K hK;unfold wpOpIn;simp only [ho,Region.wanted,hg,if_true];exact h4 K hK
 ·rename_i j want hg;split at h
  ·rename_i d hd;split at h
   ·rename_i bx hb;obtain ⟨pc1,hp1,h1⟩:=bN hC.D hS.pc h;obtain ⟨v,hv1,hv2⟩:=hS.fr d _ hb;simp only [Sv.den,Sc.den,Option.some.injEq] at hv2;subst hv2
    have hy:yielded ops a.tmps j=some (bx.den η):=by
     unfold nE at hd;rw [cD,Array.getElem?_toList] at hd;unfold yielded
     cases hoj:ops[j]? with
     | none=>rw [hoj] at hd;cases hd
     | some oj=>
      rw [hoj] at hd;simp only at hd;simp [hd,hv1]
    have hwant:Region.wanted o (yielded ops a.tmps)=(bx.den η==want):=by
     simp only [Region.wanted,hg,hy];rfl
    split at h1
    ·rename_i he
     have k4:=HK (ro:=ro) (m:=m) hC hih h1 ((hS.of_pc hp1).of_lit hb) Q
     intro K hK;unfold wpOpIn;simp only [ho,hwant,he,if_true];exact k4 K hK
    ·rename_i he;obtain ⟨k1,k2,k3,k4,_⟩:=cU (v:=undef) h1 ((hS.of_pc hp1).of_lit hb) rfl;intro K hK;unfold wpOpIn;simp only [ho,hwant,he,Bool.false_eq_true,if_false];exact ⟨fun _ _=>trivial,hK E _ _ (aJ.refl _ _) (by rw [k2];exact Nat.le_refl _) k3 k1⟩
   ·rename_i hb;obtain ⟨v,hv1,hv2⟩:=hS.fr d _ hb;simp only [Sv.den,Option.some.injEq] at hv2;subst hv2
    have hwant:Region.wanted o (yielded ops a.tmps)=false:=vH hg hd hv1
    obtain ⟨k1,k2,k3,k4,_⟩:=cU (v:=undef) h hS rfl;intro K hK;unfold wpOpIn;simp only [ho,hwant,Bool.false_eq_true,if_false];exact ⟨fun _ _=>trivial,hK E _ _ (aJ.refl _ _) (by rw [k2];exact Nat.le_refl _) k3 k1⟩
   ·cases h
  ·cases h
def xX (C:Cx) (ih:FI->List Sv->St->aB (Sv × St)) (nt:Nat) (ops:List Oper):List Oper->St->aB St
 | [],st => .leaf st
 | o::l,st=>(JE C ih nt ops o st).bind fun st=>xX C ih nt ops l st
theorem tK {C:Cx} {P:Program} {η:Env} (hC:C.Ok P η) {ih:FI->List Sv->St->aB (Sv × St)} (hih:eO P η ih) {nt:Nat} {ops:Array Oper} (Q:Exit->Act->World->Prop) : ∀ (l:List Oper) (k:Nat) (st p:St),(∀ j,l[j]? = ops[k+j]?)->
  (xX C ih nt ops.toList l st).at_ η=some p -> ∀ (E:Emb) (base:Nat) (w0:World) (a:Act) (w:World),cP η E nt base w0 st a w->
  (∀ E' a' w',aJ E E' st.nx->st.nx<=p.nx->p.lo=st.lo->cP η E' nt base w0 p a' w'->Q .normal a' w')->wpOpsIn (FW ro) m P ops Q (List.range' k l.length) a w
 | [],k,st,p,_,h,E,base,w0,a,w,hS,hK=>by
  cases h
  simp only [List.length_nil,List.range'_zero,wpOpsIn];exact hK E a w (aJ.refl _ _) (Nat.le_refl _) rfl hS
 | o::l,k,st,p,hl,h,E,base,w0,a,w,hS,hK=>by
  obtain ⟨st1,h1,h2⟩:=aB.at_bind h
  have ho:ops[k]? = some o:=by have:=hl 0;simpa using this.symm
  have g4:=tJ (ro:=ro) (m:=m) hC hih ho h1 hS Q
  have hl' : ∀ j,l[j]? = ops[k+1+j]? := fun j=>by have:=hl (j+1);simpa [Nat.add_assoc,Nat.add_comm 1 j] using this
  simp only [List.length_cons,List.range'_succ];rw [wpOpsIn_cons];refine g4 _ (fun E' a' w' hA hn hlo hS1 => ?_)
  exact tK hC hih Q l (k+1) st1 p hl' h2 E' base w0 a' w' hS1 (fun E'' a'' w'' hA' hn' hlo' hS'=>hK E'' a'' w'' (hA.trans hA' hn) (Nat.le_trans hn hn') (hlo'.trans hlo) hS')
end
end Go.Ex
