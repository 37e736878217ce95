/-
 The executor of code; that what it says of a call is so.
-/
import Derived.Test.YtdpabnfcfakjeaaEx14
import Derived.LoopNIn
namespace Go.Ex
open Go Go.RowKit
noncomputable section
inductive Xt where
 | normal
 | exit (id:Nat)
 | ret
def Xt.den:Xt->Exit
 | .normal => .normal
 | .exit id => .exit id
 | .ret => .ret
def dF:Nat->List Sv->T Sv->T Sv
 | _,[],t=>t
 | i,s::l,t=>dF (i+1) l (t.set i (some s))
abbrev lD:=(FI->List Sv->St->aB (Sv × St))->Nat->List Oper->St->aB St
def G6 (C:Cx)(dr:lD):Nat->Nat->Code->St->aB (Xt × St)
 | 0,_,_,_ => .fail
 | n+1,nt,c,st=>
  let call:FI->List Sv->St->aB (Sv × St):=fun fi args st=>
   bif Nat.ble args.length fi.ntmps&&Nat.ble fi.ntmps 60000 then
    (G6 C dr n fi.ntmps fi.body { st with tm:=dF 0 args .nil }).bind fun r=>match r.1 with
     | .exit _ => .fail
     | _=>match vA C r.2.hp r.2.tm fi.res with
      | some s => .leaf (s,r.2)
      | none => .fail
   else .fail
  match c with
  | .skip => .leaf (.normal,st)
  | .ret => .leaf (.ret,st)
  | .exit id => .leaf (.exit id,st)
  | .seq a b=>(G6 C dr n nt a st).bind fun r=>match r.1 with
   | .normal=>G6 C dr n nt b r.2
   | _ => .leaf r
  | .cond c a b=>match evX st.tm c with
   | some (.one (.bool bx))=>dP C.D st.pc bx fun t pc=>G6 C dr n nt (bif t then a else b) { st with pc:=pc,tm:=abH c t st.tm }
   | _ => .fail
  | .block id c=>(G6 C dr n nt c st).bind fun r=>match r.1 with
   | .exit i=>bif Nat.beq i id then .leaf (.normal,r.2) else .leaf r
   | _ => .leaf r
  | .loop c=>(G6 C dr n nt c st).bind fun r=>match r.1 with
   | .normal=>G6 C dr n nt (.loop c) r.2
   | _ => .leaf r
  | .region _ ops false=>(xX C call nt ops.toList ops.toList st).bind fun st => .leaf (.normal,st)
  | .region _ ops true=>(dr call nt ops.toList st).bind fun st => .leaf (.normal,st)
  | _ => .fail
def l9 (C:Cx)(dr:lD)(n:Nat):FI->List Sv->St->aB (Sv × St):=fun fi args st=>
 bif Nat.ble args.length fi.ntmps&&Nat.ble fi.ntmps 60000 then
  (G6 C dr n fi.ntmps fi.body { st with tm:=dF 0 args .nil }).bind fun r=>match r.1 with
   | .exit _ => .fail
   | _=>match vA C r.2.hp r.2.tm fi.res with
    | some s => .leaf (s,r.2)
    | none => .fail
 else .fail
end
end Go.Ex
namespace Go.Ex
open Go Go.RowKit
noncomputable section
def JF (P:Program)(η:Env)(dr:lD):Prop:=
 ∀ ih,eO P η ih -> ∀ (nt:Nat) (ops:Array Oper) (st k:St),(dr ih nt ops.toList st).at_ η=some k->
  ∀ E base w0 a w,cP η E nt base w0 st a w -> ∀ (Q:Exit->Act->World->Prop) (id:Nat),
   (∀ E' a' w',aJ E E' st.nx->st.nx<=k.nx->k.lo=st.lo->cP η E' nt base w0 k a' w'->Q .normal a' w') -> ∀ ro m,(Code.region id ops true).wpIn (FW ro) m P Q a w
def SV (η:Env)(nt base:Nat)(w0:World)(E:Emb)(st:St)(r:Xt × St)(Q:Exit->Act->World->Prop):Prop:=
 ∀ E' a' w',aJ E E' st.nx->st.nx<=r.2.nx->r.2.lo=st.lo->cP η E' nt base w0 r.2 a' w'->Q r.1.den a' w'
theorem SV.trans {η:Env} {nt base:Nat} {w0:World} {E E':Emb} {st k:St} {r:Xt × St} {Q:Exit->Act->World->Prop} (h:SV η nt base w0 E st r Q) (hA:aJ E E' st.nx) (hn:st.nx<=k.nx) (g:k.lo=st.lo):
  SV η nt base w0 E' k r Q:=fun E'' a' w' hA' hn' hlo' hS=>h E'' a' w' (hA.trans hA' hn) (Nat.le_trans hn hn') (hlo'.trans g) hS
theorem mA {η:Env} {E:Emb} {a:Act} : ∀ {l:List Sv} {vs:List Value} {i:Nat} {t:T Sv},aD η E l=some vs->jA η E t a->i+l.length<65535->(∀ j,j<l.length->a.tmps[i+j]? = vs[j]?)->jA η E (dF i l t) a
 | [],vs,i,t,_,h,_,_=>h
 | s::l,vs,i,t,hv,h,hi,ha=>by
  obtain ⟨v,us,h1,h2,rfl⟩:=aI hv
  show jA η E (dF (i+1) l (t.set i (some s))) a
  refine mA (l:=l) h2 ?_ (by simp at hi;omega) (fun j hj=>by have:=ha (j+1) (by simp;omega);simpa [Nat.add_assoc,Nat.add_comm 1 j] using this)
  intro x sv hx
  by_cases hix:i=x
  ·subst hix;rw [T.get_set_same _ _ _ (by simp at hi;omega)] at hx
   cases hx
   exact ⟨v,by simpa using ha 0 (by simp),h1⟩
  ·rw [T.get_set_ne _ _ _ _ hix] at hx;exact h x sv hx
theorem iL {η:Env} {E:Emb} : ∀ {l:List Sv} {vs},aD η E l=some vs->vs.length=l.length
 | [],vs,h=>by cases h;rfl
 | s::l,vs,h=>by
  obtain ⟨v,us,h1,h2,rfl⟩:=aI h;simp [iL h2]
def WE (C:Cx)(dr:lD)(P:Program)(η:Env)(n:Nat):Prop:=
 ∀ nt c st r,(G6 C dr n nt c st).at_ η=some r -> ∀ E base w0 a w,cP η E nt base w0 st a w -> ∀ Q,SV η nt base w0 E st r Q->
  ∀ ro m,c.wpIn (FW ro) m P Q a w /\ ∀ c',c = .loop c'->Code.roundsIn (FW ro) m P c' Q n a w
theorem CR {C:Cx} {dr:lD} {P:Program} {η:Env} (hC:C.Ok P η) {n:Nat} (hX:WE C dr P η n):eO P η (l9 C dr n):=by
 intro fi args st r h f hF hpc g E base w0 w vs hH hB hv;unfold l9 at h
 cases hb:(Nat.ble args.length fi.ntmps&&Nat.ble fi.ntmps 60000) with
 | false=>rw [hb] at h;cases h
 | true=>
  rw [hb] at h;simp only [Bool.and_eq_true] at hb
  have hb1:=Nat.le_of_ble_eq_true hb.1
  have hb2:=Nat.le_of_ble_eq_true hb.2
  obtain ⟨r1,h1,h2⟩:=aB.at_bind h;obtain ⟨fn,f1,f2,f3,f4,_⟩:=hF.fn
  have hlen:=iL hv
  refine (callsIn_wide (n:=0)).1 (callsIn_of_wp f1 f2 trivial ?_)
  have hH0:=hH.dl0 []
  have hfr:jA η (E.dl0 []) (dF 0 args .nil) { tmps:=vs.toArray++Array.replicate (fn.ntmps-vs.toArray.size) undef,defers:=[] }:=by
   refine mA (cJ (E.le_dl0 []) hv) (fun t sv ht=>by simp [T.get_nil] at ht) (by omega) (fun j hj => ?_)
   have:j<vs.length:=by omega
   simp [Array.getElem?_append,this]
  have hS:cP η (E.dl0 []) fi.ntmps base w0 { st with tm:=dF 0 args .nil } { tmps:=vs.toArray++Array.replicate (fn.ntmps-vs.toArray.size) undef,defers:=[] } w:=
   ⟨hfr,by simp [f3,hlen];omega,hb2,rfl,hH0,hB,g,hpc⟩
  refine (hX _ _ _ _ h1 (E.dl0 []) base w0 _ w hS _ ?_ none 0).1;intro E' a' w' hA hn hlo' hS';obtain ⟨xt,k⟩:=r1
  have fin : ∀ s,vA C k.hp k.tm fi.res=some s->r=(s,k)->a'.defers=[] /\ ∃ v,(results fn a'.tmps).run P w' = .ok v w' /\ ∃ v' E',Ending.returned v = .returned v'/\r.1.den η E'=some v'/\aJ E E' st.nx/\aF η E' r.2.hp r.2.nx st.lo base w'/\Below base w0 w'/\r.2.pc.holds η/\st.nx<=r.2.nx:=by
   rintro s hs rfl;obtain ⟨v,e1,e2⟩:=CI hC hS'.hr hS'.fr (fn:=fn) (by rw [f4];exact hs)
   have hlo'':k.lo=st.lo:=hlo'
   exact ⟨hS'.df.trans (congrArg Fix.l hA.dl),v,e2,v,E'.dl0 E.dl.l,rfl,Sv.den_mono (E'.le_dl0 _) e1,⟨hA.b,hA.r,hA.z,hA.d,(by show Fix.mk E.dl.l E'.dl.z0=E.dl;rw [hA.dl];rfl),hA.m⟩,by rw [←hlo''];exact hS'.hr.dl0 _,hS'.bl,hS'.pc,hn⟩
  cases xt with
  | exit i=>cases h2
  | normal=>
   simp only at h2;split at h2
   ·rename_i s hs;cases h2;exact fin s hs rfl
   ·cases h2
  | ret=>
   simp only at h2;split at h2
   ·rename_i s hs;cases h2;exact fin s hs rfl
   ·cases h2
theorem JG {C:Cx} {dr:lD} {P:Program} {η:Env} (hC:C.Ok P η) (hD:JF P η dr) : ∀ n,WE C dr P η n
 | 0=>fun nt c st r h=>by cases h
 | n+1=>by
  have ih:=JG hC hD n
  have hcall:eO P η (l9 C dr n):=CR hC ih
  intro nt c st r h E base w0 a w hS Q hQ ro m;unfold G6 at h;split at h
  ·cases h;exact ⟨wpIn_skip (hQ E a w (aJ.refl _ _) (Nat.le_refl _) rfl hS),fun _ e=>by cases e⟩
  ·cases h;exact ⟨wpIn_ret (hQ E a w (aJ.refl _ _) (Nat.le_refl _) rfl hS),fun _ e=>by cases e⟩
  ·cases h;exact ⟨wpIn_exit (hQ E a w (aJ.refl _ _) (Nat.le_refl _) rfl hS),fun _ e=>by cases e⟩
  ·rename_i x y;obtain ⟨⟨xt,st1⟩,h1,h2⟩:=aB.at_bind h;refine ⟨wpIn_seq (ih _ _ _ _ h1 E base w0 a w hS _ ?_ ro m).1,fun _ e=>by cases e⟩
   intro E' a' w' hA hn g hS'
   cases xt with
   | normal=>exact (ih _ _ _ _ h2 E' base w0 a' w' hS' Q (hQ.trans hA hn g) ro m).1
   | exit i=>cases h2;exact hQ E' a' w' hA hn g hS'
   | ret=>cases h2;exact hQ E' a' w' hA hn g hS'
  ·rename_i c x y;refine ⟨?_,fun _ e=>by cases e⟩
   split at h
   ·rename_i bx hb;obtain ⟨pc1,hp1,h1⟩:=bN hC.D hS.pc h
    have ec:=hS.fr.orel c _ hb
    simp only [Sv.den,Sc.den,Option.some.injEq] at ec;refine wpIn_cond ec.symm ?_
    have:=(ih _ _ _ _ h1 E base w0 a w ((hS.of_pc hp1).of_litO hb) Q hQ ro m).1
    cases hbx:bx.den η<;>simpa [hbx] using this
   ·cases h
  ·rename_i id c;refine ⟨?_,fun _ e=>by cases e⟩
   obtain ⟨⟨xt,st1⟩,h1,h2⟩:=aB.at_bind h;refine wpIn_block (ih _ _ _ _ h1 E base w0 a w hS _ ?_ ro m).1;intro E' a' w' hA hn g hS'
   cases xt with
   | normal=>cases h2;exact hQ E' a' w' hA hn g hS'
   | ret=>cases h2;exact hQ E' a' w' hA hn g hS'
   | exit i=>
    simp only [Xt.den,Exit.inBlock];simp only at h2
    cases hb:Nat.beq i id with
    | true=>
     rw [hb] at h2;cases h2
     have:=Nat.eq_of_beq_eq_true hb
     simp only [this,if_true];exact hQ E' a' w' hA hn g hS'
    | false=>
     rw [hb] at h2;cases h2
     have : ¬ i=id:=fun e=>by subst e;simp at hb
     simp only [this,if_false];exact hQ E' a' w' hA hn g hS'
  ·rename_i c;obtain ⟨⟨xt,st1⟩,h1,h2⟩:=aB.at_bind h
   have hr:Code.roundsIn (FW ro) m P c Q (n+1) a w:=by
    rw [roundsIn_succ];refine (ih _ _ _ _ h1 E base w0 a w hS _ ?_ ro m).1;intro E' a' w' hA hn g hS'
    cases xt with
    | normal=>exact (ih _ _ _ _ h2 E' base w0 a' w' hS' Q (hQ.trans hA hn g) ro m).2 c rfl
    | exit i=>cases h2;exact hQ E' a' w' hA hn g hS'
    | ret=>cases h2;exact hQ E' a' w' hA hn g hS'
   exact ⟨wpIn_loop_rounds _ hr,fun c' e=>by cases e;exact hr⟩
  ·rename_i ops;refine ⟨?_,fun _ e=>by cases e⟩
   obtain ⟨st1,h1,h2⟩:=aB.at_bind h
   cases h2
   refine wpIn_region ?_
   have:=tK (ro:=ro) (m:=m) hC hcall Q ops.toList 0 st st1 (fun j=>by simp) h1 E base w0 a w hS (fun E' a' w' hA hn g hS'=>hQ E' a' w' hA hn g hS')
   rw [List.range_eq_range']
   simpa using this
  ·rename_i ops;refine ⟨?_,fun _ e=>by cases e⟩
   obtain ⟨st1,h1,h2⟩:=aB.at_bind h
   cases h2
   exact hD _ hcall nt ops st st1 h1 E base w0 a w hS Q _ (fun E' a' w' hA hn g hS'=>hQ E' a' w' hA hn g hS') ro m
  ·cases h
end
end Go.Ex
