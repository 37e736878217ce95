/-
 Running code up to the next loop: what is left to do as a list; what is shown of states.
-/
import Derived.Test.YtdpabnfcfakjeaaEx19a
namespace Go.Ex
open Go Go.RowKit
noncomputable section
inductive It where
 | code (c:Code)
 | blk (id:Nat)
inductive Out where
 | fin (x:Xt) (st:St)
 | loop (c:Code) (k:List It) (st:St)
 | rfn (g:Operand) (ps:Array Tmp) (asg body:Code) (k:List It) (st:St)
def vW (id:Nat):List It->Option (List It)
 | []=>none
 | .code _::k=>vW id k
 | .blk i::k=>bif Nat.beq i id then some k else vW id k
def aaP (e:Exit)(id:Nat):Bool:=
 match e with
 | .exit i=>Nat.beq i id
 | _=>false
theorem N1 {e:Exit} {id:Nat}:aaP e id=true↔e = .exit id:=by
 cases e<;>simp [aaP]
abbrev VI:=Exit->Act->World->Prop
mutual
def wpK (ro:Option Nat)(m:Nat)(P:Program)(Q:VI):List It->Act->World->Prop
 | [],a,w=>Q .normal a w
 | .blk _::k,a,w=>wpK ro m P Q k a w
 | .code c::k,a,w=>c.wpIn (FW ro) m P (fun e a w=>match e with
  | .normal=>wpK ro m P Q k a w
  | e=>pJ ro m P Q e k a w) a w
def pJ (ro:Option Nat)(m:Nat)(P:Program)(Q:VI)(e:Exit):List It->Act->World->Prop
 | [],a,w=>Q e a w
 | .code _::k,a,w=>pJ ro m P Q e k a w
 | .blk id::k,a,w=>if aaP e id=true then wpK ro m P Q k a w else pJ ro m P Q e k a w
end
variable {ro:Option Nat} {m:Nat} {P:Program} {Q:VI}
theorem vX {a:Act} {w:World}:wpK ro m P Q [] a w=Q .normal a w:=by simp only [wpK]
theorem TJ {id:Nat} {k:List It} {a:Act} {w:World}:wpK ro m P Q (.blk id::k) a w=wpK ro m P Q k a w:=by simp only [wpK]
theorem nN {e:Exit} {a:Act} {w:World}:pJ ro m P Q e [] a w=Q e a w:=by simp only [pJ]
theorem sB {e:Exit} {c:Code} {k:List It} {a:Act} {w:World}:pJ ro m P Q e (.code c::k) a w=pJ ro m P Q e k a w:=by simp only [pJ]
theorem H8 {id:Nat} {k:List It} {a:Act} {w:World}:pJ ro m P Q (.exit id) (.blk id::k) a w=wpK ro m P Q k a w:=by simp only [pJ,N1.2 rfl,if_true]
theorem nO {e:Exit} {id:Nat} (he:e ≠ .exit id) {k:List It} {a:Act} {w:World}:pJ ro m P Q e (.blk id::k) a w=pJ ro m P Q e k a w:=by
 have:aaP e id≠true:=fun h=>he (N1.1 h)
 rw [pJ];simp [this]
def dS (ro:Option Nat)(m:Nat)(P:Program)(Q:VI)(k:List It):VI:=fun e a w=>match e with
 | .normal=>wpK ro m P Q k a w
 | e=>pJ ro m P Q e k a w
theorem dA {c:Code} {k:List It} {a:Act} {w:World}:wpK ro m P Q (.code c::k) a w=c.wpIn (FW ro) m P (dS ro m P Q k) a w:=by
 simp only [wpK];rfl
theorem eJ {k:List It} {a:Act} {w:World}:dS ro m P Q k .normal a w=wpK ro m P Q k a w:=rfl
theorem b9 {k:List It} {e:Exit} (he:e ≠ .normal) {a:Act} {w:World}:dS ro m P Q k e a w=pJ ro m P Q e k a w:=by
 cases e<;>first | rfl | exact absurd rfl he
theorem BL {id:Nat} : ∀ {k k':List It} {a:Act} {w:World},vW id k=some k'->wpK ro m P Q k' a w->pJ ro m P Q (.exit id) k a w
 | [],_,_,_,h,_=>by cases h
 | .code c::k,k',a,w,h,hk=>by rw [sB];exact BL (k:=k) h hk
 | .blk i::k,k',a,w,h,hk=>by
  simp only [vW] at h
  cases hb:Nat.beq i id with
  | true=>
   rw [hb] at h;cases h
   have:=Nat.eq_of_beq_eq_true hb
   subst this;rw [H8];exact hk
  | false=>
   rw [hb] at h
   have:=Nat.ne_of_beq_eq_false hb
   rw [nO (fun e=>by injection e with e;exact this e.symm)]
   exact BL (k:=k) h hk
theorem BM {id:Nat} : ∀ {k:List It} {a:Act} {w:World},vW id k=none->Q (.exit id) a w->pJ ro m P Q (.exit id) k a w
 | [],_,_,_,hk=>by rw [nN];exact hk
 | .code c::k,a,w,h,hk=>by rw [sB];exact BM (k:=k) h hk
 | .blk i::k,a,w,h,hk=>by
  simp only [vW] at h
  cases hb:Nat.beq i id with
  | true=>rw [hb] at h;cases h
  | false=>
   rw [hb] at h
   have:=Nat.ne_of_beq_eq_false hb
   rw [nO (fun e=>by injection e with e;exact this e.symm)]
   exact BM (k:=k) h hk
theorem sC {e:Exit} (he : ∀ id,e ≠ .exit id) : ∀ {k:List It} {a:Act} {w:World},Q e a w->pJ ro m P Q e k a w
 | [],_,_,hk=>by rw [nN];exact hk
 | .code c::k,a,w,hk=>by rw [sB];exact sC he (k:=k) hk
 | .blk i::k,a,w,hk=>by
  rw [nO (he i)];exact sC he (k:=k) hk
abbrev HC (D:Nat):Deferred:={ target := .collected D,args := #[] }
def aes (d d':Nat->Option Obj)(l' l:List Deferred):Prop := ∃ Ds:List Nat,l'=Ds.map HC++l/\Ds.Nodup /\ ∀ D∈Ds,d' D=some (.deferred (some []))/\d D=none
structure iE (E E':Emb) (n:Nat):Prop where
 b : ∀ i,i<n->E' i=E i
 r : ∀ k,k<n -> ∀ j,E'.r k j=E.r k j
 z : ∀ B o v,E.z B o=some v->E'.z B o=some v
 d : ∀ D o,E.d D=some o->E'.d D=some o
 z0:E'.dl.z0=E.dl.z0
 m : ∀ q,q<n -> ∀ i,E'.m q i=E.m q i
 dl:aes E.d E'.d E'.dl.l E.dl.l
theorem aJ.comes {E E':Emb} {n:Nat} (h:aJ E E' n):iE E E' n:=⟨h.b,h.r,h.z,h.d,by rw [h.dl],h.m,[],by rw [h.dl];rfl,List.nodup_nil,fun _ h=>by cases h⟩
theorem iE.refl (E:Emb)(n:Nat):iE E E n:=(aJ.refl E n).comes
theorem iE.trans {E E' E'':Emb} {n m:Nat} (h:iE E E' n) (h':iE E' E'' m) (hm:n<=m):iE E E'' n:=by
 obtain ⟨ms,e1,e0,e2⟩:=h.dl;obtain ⟨ms',e3,e5,e4⟩:=h'.dl;refine ⟨fun i hi=>(h'.b i (by omega)).trans (h.b i hi),fun k hk j=>(h'.r k (by omega) j).trans (h.r k hk j),fun B o v hv=>h'.z B o v (h.z B o v hv),fun D o hD=>h'.d D o (h.d D o hD),h'.z0.trans h.z0,fun q hq i=>(h'.m q (by omega) i).trans (h.m q hq i),ms'++ms,?_,List.nodup_append.2 ⟨e5,e0,fun a ha b hb e => ?_⟩,fun D hD => ?_⟩
 ·rw [e3,e1,List.map_append,List.append_assoc]
 ·subst e
  have:=(e4 a ha).2
  rw [(e2 a hb).1] at this
  cases this
 ·rcases List.mem_append.1 hD with hD | hD
  ·refine ⟨(e4 D hD).1,?_⟩
   cases hd:E.d D with
   | none=>rfl
   | some o=>have:=h.d D o hd;rw [(e4 D hD).2] at this;cases this
  ·exact ⟨h'.d D _ (e2 D hD).1,(e2 D hD).2⟩
theorem iE.less {E E':Emb} {n m:Nat} (h:iE E E' n) (hm:m<=n):iE E E' m:=⟨fun i hi=>h.b i (by omega),fun k hk=>h.r k (by omega),h.z,h.d,h.z0,fun q hq=>h.m q (by omega),h.dl⟩
def dH (P:Program)(η:Env)(nt n0:Nat)(ro:Option Nat)(st:St)(k:List It)(Φ:Xt->St->Prop):Prop:=
 ∀ (m:Nat) (E:Emb) (base:Nat) (w0:World) (a:Act) (w:World) (Q:VI),(ro=none->10<=m)->cP η E nt base w0 st a w->n0<=st.nx->
  (∀ x st' E' a' w',Φ x st'->iE E E' n0->n0<=st'.nx->st'.lo=st.lo->cP η E' nt base w0 st' a' w'->Q x.den a' w')->wpK ro m P Q k a w
theorem dH.mono {η:Env} {nt n0:Nat} {st:St} {k:List It} {Φ Ψ:Xt->St->Prop} (h:dH P η nt n0 ro st k Φ) (hi : ∀ x st',Φ x st'->Ψ x st'):dH P η nt n0 ro st k Ψ:=
 fun m E base w0 a w Q hm hS hn hQ=>h m E base w0 a w Q hm hS hn fun x st' E' a' w' hΦ=>hQ x st' E' a' w' (hi x st' hΦ)
theorem dH.mono' {η:Env} {nt n0:Nat} {st:St} {k:List It} {Φ Ψ:Xt->St->Prop} (h:dH P η nt n0 ro st k Φ) (hi : ∀ x st',st'.lo=st.lo->Φ x st'->Ψ x st'):dH P η nt n0 ro st k Ψ:=
 fun m E base w0 a w Q hm hS hn hQ=>h m E base w0 a w Q hm hS hn fun x st' E' a' w' hΦ hA hn' hlo=>hQ x st' E' a' w' (hi x st' hlo hΦ) hA hn' hlo
end
end Go.Ex
namespace Go.Ex
open Go Go.RowKit
noncomputable section
structure Sub (η:Env) (n0:Nat) (st1 st:St):Prop where
 lo:st1.lo=st.lo
 nx:n0<=st.nx->n0<=st1.nx
 sub : ∀ (E:Emb) (nt base:Nat) (w0:World) (a:Act) (w:World),cP η E nt base w0 st a w->n0<=st.nx -> ∃ E1,aJ E E1 n0/\cP η E1 nt base w0 st1 a w
theorem Sub.refl (η:Env)(n0:Nat)(st:St):Sub η n0 st st:=⟨rfl,fun h=>h,fun E _ _ _ _ _ h _=>⟨E,aJ.refl E n0,h⟩⟩
theorem dH.sub {P:Program} {η:Env} {nt n0:Nat} {ro:Option Nat} {st st1:St} {k:List It} {Φ:Xt->St->Prop} (hs:Sub η n0 st1 st) (h:dH P η nt n0 ro st1 k Φ):dH P η nt n0 ro st k Φ:=
 fun m E base w0 a w Q hm hS hn hQ=>by
  obtain ⟨E1,hA,hS1⟩:=hs.sub E nt base w0 a w hS hn;exact h m E1 base w0 a w Q hm hS1 (hs.nx hn) fun x st' E' a' w' hΦ hA' hn' hlo hS'=>hQ x st' E' a' w' hΦ (hA.comes.trans hA' (Nat.le_refl _)) hn' (hlo.trans hs.lo) hS'
def yG (P:Program)(η:Env)(nt n0:Nat)(ro:Option Nat)(k:List It)(Φ:Xt->St->Prop)(again:St->Prop):Xt->St->Prop
 | .normal,st=>again st
 | .ret,st=>Φ .ret st
 | .exit id,st=>match vW id k with
  | some k'=>dH P η nt n0 ro st k' Φ
  | none=>Φ (.exit id) st
theorem dH.loop {P:Program} {η:Env} {nt n0:Nat} {ro:Option Nat} {c:Code} {k:List It} {Φ:Xt->St->Prop} {ι:Type _} (I:ι->St) (μ:ι->Nat)
  (round : ∀ x,dH P η nt n0 ro (I x) [.code c] (yG P η nt n0 ro k Φ fun st' => ∃ y,μ y<μ x/\Sub η n0 (I y) st')) (x:ι):dH P η nt n0 ro (I x) (.code (.loop c)::k) Φ:=by
 intro m E base w0 a w Q hm hS hn hQ;rw [dA]
 have key : ∀ (j:Nat) (y:ι) (E1:Emb) (a:Act) (w:World),μ y<j->iE E E1 n0->n0<=(I y).nx->(I y).lo=(I x).lo->cP η E1 nt base w0 (I y) a w->Code.roundsIn (FW ro) m P c (dS ro m P Q k) j a w:=by
  intro j
  induction j with
  | zero=>intro y E1 a w hj;exact absurd hj (Nat.not_lt_zero _)
  | succ j ih=>
   intro y E1 a w hj hA hny hly hSy;rw [roundsIn_succ]
   have h:=round y m E1 base w0 a w (Exit.then (Code.roundsIn (FW ro) m P c (dS ro m P Q k) j) (dS ro m P Q k)) hm hSy hny (fun xt st' E' a' w' hΦ hA' hn' hlo' hS' => ?_)
   ·rw [dA] at h;refine wpIn_mono h fun e a' w' he => ?_
    cases e with
    | normal=>rw [eJ,vX] at he;exact he
    | _=>rw [b9 (by simp),nN] at he;exact he
   ·have hQ' : ∀ x' st'' E'' a'' w'',Φ x' st''->iE E' E'' n0->n0<=st''.nx->st''.lo=st'.lo->cP η E'' nt base w0 st'' a'' w''->Q x'.den a'' w'':=
     fun x' st'' E'' a'' w'' h1 h2 h3 h4 h5=>hQ x' st'' E'' a'' w'' h1 ((hA.trans hA' (Nat.le_refl _)).trans h2 (Nat.le_refl _)) h3 (h4.trans (hlo'.trans hly)) h5
    cases xt with
    | normal=>
     obtain ⟨y',hμ,hsub⟩:=hΦ;obtain ⟨E2,hA2,hS2⟩:=hsub.sub E' nt base w0 a' w' hS' hn';exact ih y' E2 a' w' (by omega) ((hA.trans hA' (Nat.le_refl _)).trans hA2.comes (Nat.le_refl _)) (hsub.nx hn') (hsub.lo.trans (hlo'.trans hly)) hS2
    | exit id=>
     show dS ro m P Q k (.exit id) a' w'
     rw [b9 (by simp)]
     simp only [yG] at hΦ;split at hΦ
     ·rename_i k' hk;exact BL hk (hΦ m E' base w0 a' w' Q hm hS' hn' hQ')
     ·rename_i hk;exact BM hk (hQ' (.exit id) st' E' a' w' hΦ (iE.refl _ _) hn' rfl hS')
    | ret=>
     show dS ro m P Q k .ret a' w'
     rw [b9 (by simp)]
     exact sC (by simp) (hQ' .ret st' E' a' w' hΦ (iE.refl _ _) hn' rfl hS')
 exact wpIn_loop_rounds _ (key (μ x+1) x E a w (Nat.lt_succ_self _) (iE.refl E n0) hn rfl hS)
def TK (n:Nat):Ref->Bool
 | .root k _=>Nat.blt k n
 | .elem r _=>TK n r
 | .sub r _ _ _=>TK n r
def vY (ρ:List (Nat × Nat)):List (Nat × Nat)->List (Nat × Nat)->Prop
 | [],[]=>True
 | a::l,b::m=>(a.1,b.1)∈ρ/\a.2=b.2/\vY ρ l m
 | _,_=>False
def t6 (rm:Nat->Nat):Ref->Ref
 | .root k j => .root (rm k) j
 | .elem r c => .elem (t6 rm r) c
 | .sub r sz lo n => .sub (t6 rm r) sz lo n
def pH (rm:Nat->Nat) (ρ:List (Nat × Nat)) (nx:Nat) (c1 c:Sc):Prop:=
 match c1,c with
 | .bool (.lit x),.bool (.lit y)=>x=y
 | .bool (.lit x),.bool (.at_ false (.tm y))=>x=y
 | .bool (.at_ false (.tm x)),.bool (.lit y)=>x=y
 | .bool (.at_ false (.tm x)),.bool (.at_ false (.tm y))=>x=y
 | .int k1 (.lit a),.int k (.lit b)=>k1=k/\a=b
 | .int k1 (.lit a),.int k (.tm b)=>k1=k/\a=b
 | .int k1 (.tm a),.int k (.lit b)=>k1=k/\a=b
 | .int k1 (.tm a),.int k (.tm b)=>k1=k/\a=b
 | .str l,.str l'=>l=l'
 | .str l,.ostr l'=>l=l'
 | .ostr l,.str l'=>l=l'
 | .ostr l,.ostr l'=>l=l'
 | .ptr none,.ptr none=>True
 | .ptr (some a),.ptr (some b)=>(a.1,b.1)∈ρ/\a.2=b.2
 | .slice none n (.known c),.slice none n' (.known c')=>n=n'/\c=c'
 | .slice (some a) n (.rest r),.slice (some b) n' (.rest r')=>(a.1,b.1)∈ρ/\a.2=b.2/\n=n'/\r=r'
 | .own b n,.own b' n'=>(b,b')∈ρ/\n=n'
 | .own b n,.slice (some (b',0)) n' (.rest 0)=>(b,b')∈ρ/\n=n'
 | .rptr b sz i j,.rptr b' sz' i' j'=>(b,b')∈ρ/\sz=sz'/\i=i'/\j=j'
 | .map none,.map none=>True
 | .map (some b),.map (some b')=>(b,b')∈ρ
 | .nilFn,.nilFn=>True
 | .nilIface,.nilIface=>True
 | .fn f cs,.fn f' cs'=>f=f'/\vY ρ cs cs'
 | .fz r d,.fz r' d'=>t6 rm r=r'/\d=d'/\TK nx r=true
 | _,_=>False
def KB (rm:Nat->Nat) (ρ:List (Nat × Nat)) (nx:Nat):List Sc->List Sc->Prop
 | [],[]=>True
 | a::l,b::m=>pH rm ρ nx a b/\KB rm ρ nx l m
 | _,_=>False
def DZ (rm:Nat->Nat) (ρ:List (Nat × Nat)) (nx:Nat) (s1 s:Sv):Prop:=
 match s1,s with
 | .one a,.one b=>pH rm ρ nx a b
 | .agg l,.agg m=>KB rm ρ nx l m
 | .undef,.undef=>True
 | _,_=>False
def dY (rm:Nat->Nat) (ρ:List (Nat × Nat)) (nx:Nat) (b1 b:Blk):Prop:=
 match b1,b with
 | .cells e sz l,.cells e' sz' l'=>e=e'/\sz=sz'/\KB rm ρ nx l l'
 | .map ss ag f,.map ss' ag' f'=>ss=ss'/\ag=ag' /\ ∀ k,f k=f' k
 | .mat q e s n x m f,.mat q' e' s' n' x' m' f'=>((rm q=q'/\Nat.blt q nx=true)/\e=e'/\s=s')/\n=n'/\x=x'/\m=m' /\ ∀ i,i<x -> ∀ k,k<m->f i k=f' i k
 | .row e cs n f,.row e' cs' n' f'=>e=e'/\cs=cs'/\n=n' /\ ∀ i,i<n -> ∀ j,j<cs.length->f i j=f' i j
 | _,_=>False
structure mI (ρ:List (Nat × Nat)) (n0 nx lo:Nat):Prop where
 fn : ∀ i j k,(i,j)∈ρ->(i,k)∈ρ->j=k
 inj : ∀ i j k,(i,k)∈ρ->(j,k)∈ρ->i=j
 lt : ∀ i j,(i,j)∈ρ->i<nx
 id : ∀ i,i<n0->(i,i)∈ρ
 lo : ∀ i j,(i,j)∈ρ->lo<=i->lo<=j
def N2 (ρ:List (Nat × Nat)) (n0 nx lo:Nat):Bool:=
 (ρ.all fun p=>Nat.blt p.1 nx&&(Nat.blt p.1 lo||Nat.ble lo p.2)&&ρ.all fun q=>Nat.beq p.1 q.1==Nat.beq p.2 q.2)&&aH (fun i=>ρ.any fun p=>Nat.beq p.1 i&&Nat.beq p.2 i) n0
theorem BN {ρ:List (Nat × Nat)} {n0 nx lo:Nat} (h:N2 ρ n0 nx lo=true):mI ρ n0 nx lo:=by
 simp only [N2,Bool.and_eq_true] at h;obtain ⟨h1,h2⟩:=h
 have g : ∀ p∈ρ,p.1<nx/\(lo<=p.1->lo<=p.2) /\ ∀ q∈ρ,(Nat.beq p.1 q.1==Nat.beq p.2 q.2)=true:=by
  intro p hp
  have:=List.all_eq_true.1 h1 p hp
  simp only [Bool.and_eq_true,Bool.or_eq_true] at this;obtain ⟨⟨a,b⟩,c⟩:=this;refine ⟨Nat.le_of_ble_eq_true a,fun hl => ?_,fun q hq=>List.all_eq_true.1 c q hq⟩
  rcases b with b | b
  ·have:p.1<lo:=Nat.le_of_ble_eq_true b;omega
  ·exact Nat.le_of_ble_eq_true b
 refine ⟨fun i j k hj hk => ?_,fun i j k hi hj => ?_,fun i j hp=>(g _ hp).1,fun i hi => ?_,fun i j hp=>(g _ hp).2.1⟩
 ·have:=(g _ hj).2.2 _ hk
  simp only [fL,decide_true,beq_iff_eq] at this;exact of_decide_eq_true this.symm
 ·have:=(g _ hi).2.2 _ hj
  simp only [fL,decide_true,beq_iff_eq] at this;exact of_decide_eq_true this
 ·have:=bG h2 i hi
  obtain ⟨p,hp,e⟩:=List.any_eq_true.1 this;simp only [Bool.and_eq_true] at e
  have e1:=Nat.eq_of_beq_eq_true e.1
  have e2:=Nat.eq_of_beq_eq_true e.2
  obtain ⟨p1,p2⟩:=p;simp only at e1 e2;subst e1;subst e2;exact hp
open Classical in
def subE (rm:Nat->Nat) (ρ:List (Nat × Nat)) (nx:Nat) (E:Emb):Emb:=
 ⟨fun i=>if h : ∃ j,(i,j)∈ρ then E.b h.choose else none,fun k j=>if k<nx then E.r (rm k) j else none,E.z,E.d,E.dl,fun q i=>if q<nx then E.m (rm q) i else none⟩
open Classical in
theorem gN {rm:Nat->Nat} {ρ:List (Nat × Nat)} {n0 nx lo:Nat} (hρ:mI ρ n0 nx lo) {E:Emb} {i j:Nat} (h:(i,j)∈ρ):(subE rm ρ nx E) i=E j:=by
 have hex : ∃ j,(i,j)∈ρ:=⟨j,h⟩
 show (if h : ∃ j,(i,j)∈ρ then E.b h.choose else none)=E.b j
 rw [dif_pos hex,hρ.fn i _ j hex.choose_spec h]
open Classical in
theorem jE {rm:Nat->Nat} {ρ:List (Nat × Nat)} {nx:Nat} {E:Emb} {i:Nat} {x:Nat × Nat} (h:(subE rm ρ nx E) i=some x) : ∃ j,(i,j)∈ρ/\E j=some x:=by
 have h:(if h : ∃ j,(i,j)∈ρ then E.b h.choose else none)=some x:=h
 split at h
 ·rename_i hex;exact ⟨_,hex.choose_spec,h⟩
 ·cases h
theorem Q4 {rm:Nat->Nat} {ρ:List (Nat × Nat)} {nx:Nat} {E:Emb} : ∀ {r:Ref} {v:Value},TK nx r=true->(t6 rm r).val E=some v->r.val (subE rm ρ nx E)=some v
 | .root k j,v,hl,h=>by
  have hl:k<nx:=Nat.le_of_ble_eq_true hl
  simp only [t6,Ref.val] at h ⊢
  show (if k<nx then E.r (rm k) j else none)=some v
  rw [if_pos hl];exact h
 | .elem r c,v,hl,h=>by
  simp only [t6,Ref.val] at h;split at h
  ·rename_i hr;simp only [Ref.val,Q4 (r:=r) hl hr];exact h
  ·cases h
 | .sub r sz lo m,v,hl,h=>by
  simp only [t6,Ref.val] at h;split at h
  ·rename_i hr;simp only [Ref.val,Q4 (r:=r) hl hr];exact h
  ·cases h
theorem AO {rm:Nat->Nat} {ρ:List (Nat × Nat)} {n0 nx lo:Nat} (hρ:mI ρ n0 nx lo) {E:Emb} : ∀ {l m:List (Nat × Nat)} {vs:List Value},vY ρ l m->b7 E m=some vs->b7 (subE rm ρ nx E) l=some vs
 | [],[],_,_,h=>h
 | a::l,b::m,vs,hs,h=>by
  obtain ⟨h1,h2,h3⟩:=hs;simp only [b7] at h;split at h
  ·rename_i x r hx hr
   cases h
   have hx':bV (subE rm ρ nx E) a=some x:=by
    unfold bV at hx ⊢;rw [gN hρ h1,h2];exact hx
   simp only [b7,hx',AO hρ h3 hr]
  ·cases h
 | [],_::_,_,hs,_=>by cases hs
 | _::_,[],_,hs,_=>by cases hs
theorem H9 {rm:Nat->Nat} {ρ:List (Nat × Nat)} {n0 nx lo:Nat} (hρ:mI ρ n0 nx lo) {η:Env} {E:Emb} {c1 c:Sc} {v:Value} (hs:pH rm ρ nx c1 c) (h:c.den η E=some v):c1.den η (subE rm ρ nx E)=some v:=by
 unfold pH at hs;split at hs<;>try (first | (cases hs;done) | skip)
 ·subst hs;exact h
 ·subst hs;simpa [Sc.den,Bx.den,fK.den] using h
 ·subst hs;simpa [Sc.den,Bx.den,fK.den] using h
 ·subst hs;simpa [Sc.den,Bx.den,fK.den] using h
 ·obtain ⟨rfl,rfl⟩:=hs;exact h
 ·obtain ⟨rfl,rfl⟩:=hs;exact h
 ·obtain ⟨rfl,rfl⟩:=hs;exact h
 ·obtain ⟨rfl,rfl⟩:=hs;exact h
 ·subst hs;exact h
 ·subst hs;exact h
 ·subst hs;exact h
 ·subst hs;exact h
 ·exact h
 ·rename_i a b;obtain ⟨h1,h2⟩:=hs;simp only [Sc.den,bV] at h ⊢;rw [gN hρ h1,h2];exact h
 ·obtain ⟨rfl,rfl⟩:=hs;exact h
 ·obtain ⟨h1,h2,rfl,rfl⟩:=hs;simp only [Sc.den] at h ⊢;rw [gN hρ h1,h2];exact h
 ·obtain ⟨h1,rfl⟩:=hs;simp only [Sc.den] at h ⊢;rw [gN hρ h1];exact h
 ·obtain ⟨h1,rfl⟩:=hs;simp only [Sc.den] at h ⊢;rw [gN hρ h1]
  simpa using h
 ·obtain ⟨h1,rfl,rfl,rfl⟩:=hs;simp only [Sc.den] at h ⊢;rw [gN hρ h1];exact h
 ·exact h
 ·simp only [Sc.den] at h ⊢;rw [gN hρ hs];exact h
 ·exact h
 ·exact h
 ·obtain ⟨rfl,h2⟩:=hs;simp only [Sc.den,Option.map_eq_some_iff] at h ⊢;obtain ⟨vs,g1,g2⟩:=h;exact ⟨vs,AO hρ h2 g1,g2⟩
 ·obtain ⟨rfl,rfl,hl⟩:=hs;obtain ⟨g1,g2⟩:=aP.1 h;exact aP.2 ⟨Q4 hl g1,g2⟩
theorem D0 {rm:Nat->Nat} {ρ:List (Nat × Nat)} {n0 nx lo:Nat} (hρ:mI ρ n0 nx lo) {η:Env} {E:Emb} : ∀ {l m:List Sc} {vs:List Value},KB rm ρ nx l m->aQ η E m=some vs->aQ η (subE rm ρ nx E) l=some vs
 | [],[],_,_,h=>h
 | a::l,b::m,vs,hs,h=>by
  obtain ⟨v,us,h1,h2,rfl⟩:=aR h;simp only [aQ,H9 hρ hs.1 h1,D0 hρ hs.2 h2]
 | [],_::_,_,hs,_=>by cases hs
 | _::_,[],_,hs,_=>by cases hs
theorem IA {rm:Nat->Nat} {ρ:List (Nat × Nat)} {n0 nx lo:Nat} (hρ:mI ρ n0 nx lo) {η:Env} {E:Emb} {s1 s:Sv} {v:Value} (hs:DZ rm ρ nx s1 s) (h:s.den η E=some v):s1.den η (subE rm ρ nx E)=some v:=by
 unfold DZ at hs;split at hs
 ·exact H9 hρ hs h
 ·obtain ⟨vs,g1,rfl⟩:=gV h;simp only [Sv.den,D0 hρ hs g1,Option.map_some]
 ·exact h
 ·cases hs
theorem D1 {rm:Nat->Nat} {ρ:List (Nat × Nat)} {n0 nx lo:Nat} (hρ:mI ρ n0 nx lo) {η:Env} {E:Emb} {b1 b:Blk} {K:Nat} {o:Option Obj} (hs:dY rm ρ nx b1 b) (h:b.Rel η E K o):b1.Rel η (subE rm ρ nx E) K o/\b.own:=by
 unfold dY at hs;split at hs
 ·obtain ⟨rfl,rfl,h3⟩:=hs;obtain ⟨c,vs,rest,g1,g2,g3,g4,g5⟩:=h;exact ⟨⟨c,vs,rest,g1,g2,g3,D0 hρ h3 g4,g5⟩,trivial⟩
 ·obtain ⟨rfl,rfl,h3⟩:=hs;rw [funext h3];exact ⟨h,trivial⟩
 ·obtain ⟨_,rfl,_⟩:=hs;rename_i hs1 _;obtain ⟨_,rfl,_⟩:=hs1;exact ⟨h,trivial⟩
 ·obtain ⟨rfl,rfl,rfl,h4⟩:=hs;obtain ⟨c,g1,g2,g3,g4,g5,g6⟩:=h;refine ⟨⟨c,g1,g2,g3,g4,g5,fun i hi j hj => ?_⟩,trivial⟩
  rw [h4 i hi j hj];exact g6 i hi j hj
 ·cases hs
def AP {α:Type} (n:Nat) (l:List (Nat × α)):Bool:=l.all fun p=>Nat.blt p.1 n
end
end Go.Ex
