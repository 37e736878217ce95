/-
 The executor: states, one operation, the results of a call.
-/
import Derived.Test.YtdpabnfcfakjeaaEx12
namespace Go.Ex
open Go Go.RowKit
open Nat (le_of_ble_eq_true)
noncomputable section
structure St where
 tm:T Sv
 hp:T Blk
 nx:Nat
 lo:Nat
 pc:PC
structure cP (η:Env) (E:Emb) (nt base:Nat) (w0:World) (st:St) (a:Act) (w:World):Prop where
 fr:jA η E st.tm a
 sz:a.tmps.size=nt
 nt:nt<=60000
 df:a.defers=E.dl.l
 hr:aF η E st.hp st.nx st.lo base w
 bl:Below base w0 w
 lo:st.lo<=st.nx
 pc:st.pc.holds η
def iA (n:Nat):Sc->Bool
 | .ptr (some (b,_))=>Nat.blt b n
 | .slice (some (b,_)) _ _=>Nat.blt b n
 | .map (some b)=>Nat.blt b n
 | .asl b _ _=>Nat.blt b n
 | .aptr b _=>Nat.blt b n
 | .fn _ cs=>cs.all fun p=>Nat.blt p.1 n
 | .fz _ _=>false
 | .fptr _ _ _ _ _ _=>false
 | .own b _=>Nat.blt b n
 | .rptr b _ _ _=>Nat.blt b n
 | .mown _ q _ _=>Nat.blt q n
 | .mptr _ q _ _=>Nat.blt q n
 | _=>true
def below (n:Nat):Sv->Bool
 | .one c=>iA n c
 | .agg l=>l.all (iA n)
 | .tup l=>l.all fun p=>p.2.all (iA n)
 | .undef=>true
theorem Sc.den_agree {η:Env} {E E':Emb} {n:Nat} (h:aJ E E' n) {c:Sc} (hc:iA n c=true):c.den η E'=c.den η E:=by
 cases c with
 | ptr a=>cases a with
  | none=>rfl
  | some a=>
   obtain ⟨b,o⟩:=a;simp only [iA] at hc;simp only [Sc.den,bV,h.b b (le_of_ble_eq_true hc)]
 | slice a m c=>cases a with
  | none=>cases c<;>rfl
  | some a=>
   obtain ⟨b,o⟩:=a;simp only [iA] at hc
   cases c<;>simp only [Sc.den,bV,h.b b (le_of_ble_eq_true hc)]
 | map r=>cases r with
  | none=>rfl
  | some b=>
   simp only [iA] at hc;simp only [Sc.den,h.b b (le_of_ble_eq_true hc)]
 | asl b k c=>
  simp only [iA] at hc;simp only [Sc.den,h.b b (le_of_ble_eq_true hc)]
 | aptr b o=>
  simp only [iA] at hc;simp only [Sc.den,h.b b (le_of_ble_eq_true hc)]
 | fn f cs=>
  simp only [iA] at hc
  have:b7 E' cs=b7 E cs:=by
   induction cs with
   | nil=>rfl
   | cons p cs ih=>
    simp only [List.all_cons,Bool.and_eq_true] at hc;simp only [b7,bV,h.b p.1 (le_of_ble_eq_true hc.1),ih hc.2]
  simp only [Sc.den,this]
 | fz r d=>cases hc
 | fptr r cs n f i j=>cases hc
 | own b k=>
  simp only [iA] at hc;simp only [Sc.den,h.b b (le_of_ble_eq_true hc)]
 | rptr b sz i j=>
  simp only [iA] at hc;simp only [Sc.den,h.b b (le_of_ble_eq_true hc)]
 | mown b q i k=>
  simp only [iA] at hc;simp only [Sc.den,h.m q (le_of_ble_eq_true hc)]
 | mptr b q i j=>
  simp only [iA] at hc;simp only [Sc.den,h.m q (le_of_ble_eq_true hc)]
 | _=>rfl
theorem tE {η:Env} {E E':Emb} {n:Nat} (h:aJ E E' n) : ∀ {l:List Sc},l.all (iA n)=true->aQ η E' l=aQ η E l
 | [],_=>rfl
 | c::l,hl=>by
  simp only [List.all_cons,Bool.and_eq_true] at hl;simp only [aQ,Sc.den_agree h hl.1,tE h hl.2]
theorem G4 {η:Env} {E E':Emb} {n:Nat} (h:aJ E E' n) {p:Bool × List Sc} (hp:p.2.all (iA n)=true):bL η E' p=bL η E p:=by
 obtain ⟨b,l⟩:=p
 cases b with
 | true=>simp only [bL,tE h hp]
 | false=>
  cases l with
  | nil=>rfl
  | cons c l=>
   cases l with
   | nil=>
    simp only [List.all_cons,Bool.and_eq_true] at hp;simp only [bL,Sc.den_agree h hp.1]
   | cons d l=>rfl
theorem pO {η:Env} {E E':Emb} {n:Nat} (h:aJ E E' n) : ∀ {l:List (Bool × List Sc)},(l.all fun p=>p.2.all (iA n))=true->aN η E' l=aN η E l
 | [],_=>rfl
 | p::l,hl=>by
  simp only [List.all_cons,Bool.and_eq_true] at hl;simp only [aN,G4 h hl.1,pO h hl.2]
theorem Sv.den_agree {η:Env} {E E':Emb} {n:Nat} (h:aJ E E' n) {s:Sv} (hs:below n s=true):s.den η E'=s.den η E:=by
 cases s with
 | one c=>exact Sc.den_agree h hs
 | agg l=>simp only [Sv.den,tE h hs]
 | tup l=>simp only [Sv.den,pO h hs]
 | undef=>rfl
def Z9 (C:Cx)(hp:T Blk)(tm:T Sv):ResultVar->Option Sv
 | .tmp t=>tm.get t
 | .cell a t=>match tm.get a with
  | some s=>M9 C hp t s
  | none=>none
def WA:Sv->Option (Bool × List Sc)
 | .one c=>some (false,[c])
 | .agg l=>some (true,l)
 | _=>none
def aaa (C:Cx)(hp:T Blk)(tm:T Sv):List ResultVar->Option (List (Bool × List Sc))
 | []=>some []
 | r::l=>match Z9 C hp tm r,aaa C hp tm l with
  | some s,some m=>match WA s with
   | some p=>some (p::m)
   | none=>none
  | _,_=>none
def vA (C:Cx)(hp:T Blk)(tm:T Sv)(l:List ResultVar):Option Sv:=
 match l with
 | [r]=>Z9 C hp tm r
 | l=>match aaa C hp tm l with
  | some m=>some (.tup m)
  | none=>none
def pP (tmps:Array Value):ResultVar->Sem Value
 | .tmp t=>pure (tmps.getD t undef)
 | .cell a t=>do loadVar t (←asAddr (tmps.getD a undef))
theorem MI {C:Cx} {P:Program} {η:Env} {E:Emb} (hC:C.Ok P η) {hp:T Blk} {nx lo base:Nat} {w:World} (hH:aF η E hp nx lo base w) {tm:T Sv} {a:Act} (hf:jA η E tm a) {r:ResultVar} {s:Sv} (h:Z9 C hp tm r=some s):
  ∃ v,s.den η E=some v/\(pP a.tmps r).run P w = .ok v w:=by
 cases r with
 | tmp t=>
  obtain ⟨v,h1,h2⟩:=hf t s h;exact ⟨v,h2,by simp [pP,Array.getD_eq_getD_getElem?,h1]⟩
 | cell ad t=>
  simp only [Z9] at h;split at h
  ·rename_i s' hs;obtain ⟨va,h1,h2⟩:=hf ad s' hs;obtain ⟨v,h3,h4⟩:=HV hC hH h h2;refine ⟨v,h3,?_⟩;unfold M9 at h;split at h
   ·rename_i b o;obtain ⟨B,K,_,rfl⟩:=kN h2
    have e:a.tmps.getD ad undef = .pointer (some ⟨B,o,none⟩):=by simp [Array.getD_eq_getD_getElem?,h1]
    simp only [pP,e,asAddr,Sem.run_bind,Sem.run_pure,Result.andThen_ok]
    simpa [Instr.loadAt,Instr.sureAddr] using h4
   ·rename_i b o;obtain ⟨B,K,_,rfl⟩:=DF h2
    have e:a.tmps.getD ad undef = .pointer (some ⟨B,K+o,none⟩):=by simp [Array.getD_eq_getD_getElem?,h1]
    simp only [pP,e,asAddr,Sem.run_bind,Sem.run_pure,Result.andThen_ok]
    simpa [Instr.loadAt,Instr.sureAddr] using h4
   ·cases h
  ·cases h
theorem P0 {η:Env} {E:Emb} {s:Sv} {p:Bool × List Sc} {v:Value} (h:WA s=some p) (hs:s.den η E=some v):bL η E p=some v:=by
 cases s with
 | one c=>cases h;exact hs
 | agg l=>cases h;exact hs
 | tup l=>cases h
 | undef=>cases h
theorem MJ {C:Cx} {P:Program} {η:Env} {E:Emb} (hC:C.Ok P η) {hp:T Blk} {nx lo base:Nat} {w:World} (hH:aF η E hp nx lo base w) {tm:T Sv} {a:Act} (hf:jA η E tm a) : ∀ {l:List ResultVar} {m},aaa C hp tm l=some m->
  ∃ vs,aN η E m=some vs/\vs.length=l.length/\(l.mapM (pP a.tmps)).run P w = .ok vs w
 | [],m,h=>by cases h;exact ⟨[],rfl,rfl,by simp⟩
 | r::l,m,h=>by
  simp only [aaa] at h;split at h
  ·rename_i s m' hs hm;split at h
   ·rename_i p hp'
    cases h
    obtain ⟨v,h1,h2⟩:=MI hC hH hf hs;obtain ⟨vs,h3,h4,h5⟩:=MJ hC hH hf hm;exact ⟨v::vs,by simp [aN,P0 hp' h1,h3],by simp [h4],by simp [List.mapM_cons,h2,h5]⟩
   ·cases h
  ·cases h
theorem P1 (fn:Func)(tmps:Array Value)(P:Program)(w:World):(results fn tmps).run P w=((fn.results.toList.mapM (pP tmps)).run P w).andThen fun vs w' => .ok (if h:vs.length=1 then vs[0] else .tuple vs.toArray) w':=by
 have e : ∀ f g:ResultVar->Sem Value,(∀ r,f r=g r)->(do let vs ← fn.results.mapM f;pure (if h:vs.size=1 then vs[0] else .tuple vs):Sem Value)=(do let vs ← fn.results.mapM g;pure (if h:vs.size=1 then vs[0] else .tuple vs):Sem Value):=by
  intro f g h;rw [funext h]
 refine (congrArg (fun s=>Sem.run P s w) (e _ (pP tmps) (fun r=>by cases r<;>rfl))).trans ?_
 rw [Array.mapM_eq_mapM_toList];simp only [Sem.run_bind,Sem.run_map]
 cases (fn.results.toList.mapM (pP tmps)).run P w with
 | ok vs w'=>simp
 | halt h w'=>rfl
theorem CI {C:Cx} {P:Program} {η:Env} {E:Emb} (hC:C.Ok P η) {hp:T Blk} {nx lo base:Nat} {w:World} (hH:aF η E hp nx lo base w) {tm:T Sv} {a:Act} (hf:jA η E tm a) {fn:Func} {s:Sv} (h:vA C hp tm fn.results.toList=some s):
  ∃ v,s.den η E=some v/\(results fn a.tmps).run P w = .ok v w:=by
 rw [P1];unfold vA at h;split at h
 ·rename_i r hr;obtain ⟨v,h1,h2⟩:=MI hC hH hf h;exact ⟨v,h1,by rw [hr];simp [h2]⟩
 ·rename_i hl;split at h
  ·rename_i m hm
   cases h
   obtain ⟨vs,h1,h2,h3⟩:=MJ hC hH hf hm;refine ⟨.tuple vs.toArray,by simp [Sv.den,h1],?_⟩
   rw [h3]
   have : ¬ vs.length=1:=by
    intro e;rw [h2] at e
    match hfr:fn.results.toList,e with
    | [r],_=>exact hl r hfr
   simp [this]
  ·cases h
def gP (nt:Nat)(dst:Option Tmp)(sv:Sv)(st:St):aB St:=
 match dst with
 | none => .leaf st
 | some d=>bif Nat.blt d nt then .leaf { st with tm:=st.tm.set d (some sv) } else .fail
theorem cU {η:Env} {E:Emb} {nt base:Nat} {w0:World} {st st':St} {a:Act} {w:World} {dst:Option Tmp} {sv:Sv} {v:Value} (h:(gP nt dst sv st).at_ η=some st') (hr:cP η E nt base w0 st a w) (hv:sv.den η E=some v):
  cP η E nt base w0 st' (a.put dst v) w/\st'.nx=st.nx/\st'.lo=st.lo/\st'.pc=st.pc/\st'.hp=st.hp:=by
 unfold gP at h;split at h
 ·cases h;exact ⟨⟨hr.fr,hr.sz,hr.nt,hr.df,hr.hr,hr.bl,hr.lo,hr.pc⟩,rfl,rfl,rfl,rfl⟩
 ·rename_i d
  cases hd:Nat.blt d nt with
  | false=>rw [hd] at h;cases h
  | true=>
   rw [hd] at h;cases h
   have hd:=le_of_ble_eq_true hd
   exact ⟨⟨hr.fr.put (by have:=hr.nt;omega) (by rw [hr.sz];exact hd) hv,by simp [Act.put,hr.sz],hr.nt,hr.df,hr.hr,hr.bl,hr.lo,hr.pc⟩,rfl,rfl,rfl,rfl⟩
def eO (P:Program)(η:Env) (ih:FI->List Sv->St->aB (Sv × St)):Prop:=
 ∀ fi args st r,(ih fi args st).at_ η=some r -> ∀ f,FI.Ok P f fi->st.pc.holds η->st.lo<=st.nx->
  ∀ E base w0 w vs,aF η E st.hp st.nx st.lo base w->Below base w0 w->aD η E args=some vs->
   Calls P f vs.toArray w fun e w' => ∃ v E',e = .returned v/\r.1.den η E'=some v/\aJ E E' st.nx/\aF η E' r.2.hp r.2.nx st.lo base w'/\Below base w0 w'/\r.2.pc.holds η/\st.nx<=r.2.nx
def Emb.dl0 (E:Emb)(l:List Deferred):Emb:={ E with dl:=⟨l,E.dl.z0⟩ }
theorem Emb.le_dl0 (E:Emb)(l:List Deferred):E.le (E.dl0 l):=⟨fun _ _ h=>h,fun _ _ _ h=>h,fun _ _ _ h=>h,fun _ _ _ h=>h⟩
theorem aF.dl0 {η:Env} {E:Emb} {hp:T Blk} {nx lo base:Nat} {w:World} (h:aF η E hp nx lo base w) (l:List Deferred):aF η (E.dl0 l) hp nx lo base w:=
 ⟨h.dom,fun i b hi=>by obtain ⟨B,K,h1,h2⟩:=h.cell i b hi;exact ⟨B,K,h1,h2.mono (E.le_dl0 l)⟩,h.inj,h.hi,h.top,h.bot,h.free,h.lim,h.zw,h.zd,h.rfree,h.dk,h.rn,h.mt.keep (fun _ _=>rfl) (Nat.le_refl _) h.mt.hi (Nat.le_refl _) (fun _ _ _ _ _ _ _ _ hg=>⟨hg,rfl⟩) (fun _ _ _ h=>h) (fun _ _=>rfl) (fun _ _=>rfl) h.mt.z h.mt.own⟩
theorem cJ {η:Env} {E E':Emb} (h:E.le E') : ∀ {l:List Sv} {vs},aD η E l=some vs->aD η E' l=some vs
 | [],vs,hv=>hv
 | s::l,vs,hv=>by
  obtain ⟨v,us,h1,h2,rfl⟩:=aI hv;simp [aD,Sv.den_mono h h1,cJ h h2]
def Emb.z00 (E:Emb):Emb:={ E with d:=fun _=>none,dl:=⟨E.dl.l,E.z⟩ }
theorem Emb.le_z00 (E:Emb):E.le E.z00:=⟨fun _ _ h=>h,fun _ _ _ h=>h,fun _ _ _ h=>h,fun _ _ _ h=>h⟩
theorem Emb.z00_le (E:Emb):E.z00.le E:=⟨fun _ _ h=>h,fun _ _ _ h=>h,fun _ _ _ h=>h,fun _ _ _ h=>h⟩
theorem aF.z00 {η:Env} {E:Emb} {hp:T Blk} {nx lo base:Nat} {w:World} (hH:aF η E hp nx lo base w):aF η E.z00 hp nx nx w.heap.size w:=
 ⟨hH.dom,(fun i b hi=>by obtain ⟨B,K,h1,h2⟩:=hH.cell i b hi;exact ⟨B,K,h1,h2.mono E.le_z00⟩),hH.inj,(fun i B K hi hE=>by have hE:E i=some (B,K):=hE;rw [hH.free i hi] at hE;cases hE),hH.top,Nat.le_refl _,hH.free,hH.lim,hH.zw,hH.zd,hH.rfree,(fun D o hD=>by cases hD),⟨(fun k j v hk hv=>by have hv:E.r k j=some v:=hv;rw [hH.rfree k hk] at hv;cases hv),fun _ _ _ _ h=>h⟩,hH.mt.keep (fun _ _=>rfl) (Nat.le_refl _) (fun q i B L hq hE=>by have:=hH.mt.dom q i _ hE;omega) (Nat.le_refl _) (fun _ _ _ _ _ _ _ _ hg=>⟨hg,rfl⟩) (fun _ _ _ h=>h) (fun _ _=>rfl) (fun _ _=>rfl) hH.mt.z hH.mt.own⟩
def CJ (hp:T Blk)(nx k:Nat)(c:Sc):Sc × Bool:=
 match c with
 | .own b n=>match hp.get b with
  | some (.row _ cs n' f)=>(.fz (.root nx k) (.list cs n f),Nat.ble n n')
  | _=>(c,true)
 | _=>(c,true)
def tF (hp:T Blk)(nx:Nat):Nat->List Sc->List Sc × Bool
 | _,[]=>([],true)
 | k,c::l=>((CJ hp nx k c).1::(tF hp nx (k+1) l).1,(CJ hp nx k c).2&&(tF hp nx (k+1) l).2)
def xT:Sv->Nat
 | .one _=>1
 | .agg l=>l.length
 | _=>0
def SR (hp:T Blk)(nx k:Nat)(s:Sv):Sv × Bool:=
 match s with
 | .one c=>(.one (CJ hp nx k c).1,(CJ hp nx k c).2)
 | .agg l=>(.agg (tF hp nx k l).1,(tF hp nx k l).2)
 | s=>(s,true)
def pQ (hp:T Blk)(nx:Nat):Nat->List Sv->List Sv × Bool
 | _,[]=>([],true)
 | k,s::l=>((SR hp nx k s).1::(pQ hp nx (k+xT s) l).1,(SR hp nx k s).2&&(pQ hp nx (k+xT s) l).2)
def abf:Sc->Bool
 | .own _ _=>true
 | _=>false
def tG:List Sv->Bool
 | []=>false
 | .one c::l=>abf c||tG l
 | .agg cs::l=>cs.any abf||tG l
 | _::l=>tG l
def MK (E:Emb)(w:World)(nx:Nat)(rr:Nat->Option Value):Emb:=⟨E.b,fun i j=>if i=nx then rr j else E.r i j,fun B o=>w.cell? ⟨B,o,none⟩,E.d,E.dl,E.m⟩
theorem JA {η:Env} {E:Emb} {hp:T Blk} {nx top lo base:Nat} {w:World} (hH:aF η E hp top lo base w) (hn : ∀ j,E.r nx j=none) (rr:Nat->Option Value):E.le (MK E w nx rr):=
 ⟨fun _ _ h=>h,fun k j v h=>by
  show (if k=nx then rr j else E.r k j)=some v
  by_cases e:k=nx
  ·subst e;rw [hn] at h;cases h
  ·rw [if_neg e];exact h,hH.zw,fun _ _ _ h=>h⟩
theorem HF {η:Env} {E:Emb} {hp:T Blk} {nx top lo base:Nat} {w:World} (hH:aF η E hp top lo base w) (hn : ∀ j,E.r nx j=none) {rr:Nat->Option Value} {k:Nat} {c:Sc} {v:Value} (hb:(CJ hp nx k c).2=true) (hv:c.den η E=some v) (hr:rr k=some v):(CJ hp nx k c).1.den η (MK E w nx rr)=some v:=by
 unfold CJ at hb ⊢;split at hb
 ·rename_i b n;split at hb
  ·rename_i e cs n' f hbk
   have hnn:n<=n':=le_of_ble_eq_true hb
   obtain ⟨B,K,hE,rfl,hnK⟩ : ∃ B K,E b=some (B,K)/\v = .slice (some ⟨B,0,none⟩) n K/\n<=K:=iQ (η:=η) (b:=b) (n:=n) hv;refine aP.2 ⟨by simp [Ref.val,MK,hr],?_⟩
   obtain ⟨B',K',hE',c,h1,h2,h3,h4,h5,h6⟩:=hH.cell b _ hbk;rw [hE] at hE';cases hE';refine ⟨_,_,rfl,hnK,h4,.inr ⟨B,0,rfl,fun i hi j hj => ?_⟩⟩
   obtain ⟨k1,u,k2,k3⟩:=h6 i (by omega) j hj
   refine ⟨k1,u,?_,k3.mono hH.zw⟩
   show w.cell? ⟨B,0+(i*cs.length+j),none⟩=some u
   rw [Nat.zero_add,cell_of_row w B _ c e (0,0) h1,k2]
  ·exact Sc.den_mono (JA hH hn rr) hv
 ·exact Sc.den_mono (JA hH hn rr) hv
theorem CK {η:Env} {E:Emb} {hp:T Blk} {nx top lo base:Nat} {w:World} (hH:aF η E hp top lo base w) (hn : ∀ j,E.r nx j=none) {rr:Nat->Option Value} : ∀ {l:List Sc} {k:Nat} {vs:List Value},(tF hp nx k l).2=true->aQ η E l=some vs->(∀ i v,vs[i]? = some v->rr (k+i)=some v)->aQ η (MK E w nx rr) (tF hp nx k l).1=some vs
 | [],k,vs,_,hv,_=>hv
 | c::l,k,vs,hb,hv,hr=>by
  obtain ⟨v,us,h1,h2,rfl⟩:=aR hv;simp only [tF,Bool.and_eq_true] at hb ⊢
  have e1:=HF hH hn hb.1 h1 (hr 0 v rfl)
  have e2:=CK hH hn (rr:=rr) hb.2 h2 (fun i v hi=>by have:=hr (i+1) v (by simpa using hi);rwa [show k+1+i=k+(i+1) by omega])
  simp only [aQ,e1,e2]
def sS:List Sv->List Value->List Value
 | [],_=>[]
 | _,[]=>[]
 | .one _::l,v::vs=>v::sS l vs
 | .agg _::l,v::vs=>v.cells.toList++sS l vs
 | _::l,_::vs=>sS l vs
theorem HG {η:Env} {E:Emb} {hp:T Blk} {nx top lo base:Nat} {w:World} (hH:aF η E hp top lo base w) (hn : ∀ j,E.r nx j=none) {rr:Nat->Option Value} : ∀ {l:List Sv} {k:Nat} {vs:List Value},(pQ hp nx k l).2=true->aD η E l=some vs->(∀ i v,(sS l vs)[i]? = some v->rr (k+i)=some v)->aD η (MK E w nx rr) (pQ hp nx k l).1=some vs
 | [],k,vs,_,hv,_=>hv
 | s::l,k,vs,hb,hv,hr=>by
  obtain ⟨v,us,h1,h2,rfl⟩:=aI hv;simp only [pQ,Bool.and_eq_true] at hb ⊢
  have e1:(SR hp nx k s).1.den η (MK E w nx rr)=some v:=by
   cases s with
   | one c=>exact HF hH hn hb.1 h1 (hr 0 v (by simp [sS]))
   | agg cs=>
    obtain ⟨ws,g1,rfl⟩:=gV h1
    have:=CK hH hn (rr:=rr) hb.1 g1 (fun i u hi=>hr i u (by
     simp only [sS,Value.cells];rw [List.getElem?_append_left (by simpa using (List.getElem?_eq_some_iff.1 hi).1)];exact hi))
    simp only [SR,Sv.den,this,Option.map_some]
   | tup l=>exact Sv.den_mono (JA hH hn rr) h1
   | undef=>exact h1
  have e2:=HG hH hn (rr:=rr) hb.2 h2 (fun i u hi=>by
   cases s with
   | one c=>have:=hr (i+1) u (by simpa [sS] using hi);rwa [show k+xT (.one c)+i=k+(i+1) by simp only [xT];omega]
   | agg cs=>
    obtain ⟨ws,g1,rfl⟩:=gV h1
    have hl:=bC g1
    have:=hr (cs.length+i) u (by
     simp only [sS,Value.cells];rw [List.getElem?_append_right (by simp [hl])]
     simpa [hl] using hi)
    rwa [show k+xT (.agg cs)+i=k+(cs.length+i) by simp only [xT];omega]
   | tup l=>exact hr i u hi
   | undef=>exact hr i u hi)
  simp only [aD,e1,e2]
theorem CL {η:Env} {E:Emb} {hp:T Blk} {nx top lo base:Nat} {w:World} (hH:aF η E hp top lo base w) (hn : ∀ j,E.r nx j=none) {l:List Sv} {vs:List Value} (hb:(pQ hp nx 0 l).2=true) (hv:aD η E l=some vs):
  aD η (MK E w nx fun i=>(sS l vs)[i]?) (pQ hp nx 0 l).1=some vs:=
 HG hH hn hb hv (fun i v hi=>by rw [Nat.zero_add];exact hi)
theorem aF.addE {η:Env} {E:Emb} {hp:T Blk} {nx lo base n m:Nat} {w w':World} {rr:Nat->Option Value} (hH:aF η E hp nx lo base w) (hb:Below w.heap.size w w') (hn:n<m) (hnm:nx<=m) (hm:m<=65000) (hr : ∀ j,E.r n j=none) (hf : ∀ i,m<=i->E i=none) (hrf : ∀ i,m<=i -> ∀ j,E.r i j=none) (H : ∀ j u,rr j=some u->pZ w.heap.size u):
  E.le (addE E w w' rr n)/\aF η (Go.Ex.addE E w w' rr n) hp m lo base w':=by
 have I:E.le (Go.Ex.addE E w w' rr n):=⟨fun _ _ h=>h,(fun k j v h=>by
  simp only [Go.Ex.addE];split
  ·rename_i e;subst e;rw [hr] at h;cases h
  ·exact h),(fun B o v h=>by
  simp only [Go.Ex.addE];rw [if_neg (by have:=hH.zlt h;omega)];exact h),fun _ _ _ h=>h⟩
 have h1:=hH.below hb
 refine ⟨I,fun i b hi=>Nat.lt_of_lt_of_le (hH.dom i b hi) hnm,fun i b hi => ?_,h1.inj,h1.hi,h1.top,h1.bot,hf,hm,fun B o v hz => ?_,fun i b B K hi ho hE o => ?_,fun k hk j => ?_,fun D o hD=>⟨(h1.dk D o hD).1,(h1.dk D o hD).2.1,(h1.dk D o hD).2.2.1.of (fun j v hv=>by
  simp only [Go.Ex.addE] at hv;rw [if_neg (by have:=(Array.getElem?_eq_some_iff.1 (hH.dk D o hD).2.1).1;omega)] at hv
  exact hv) (fun q i L h=>⟨q,i,L,h⟩),(h1.dk D o hD).2.2.2⟩,⟨fun k j v hk hv => ?_,fun B o v hB hz => ?_⟩,h1.mt.keep (fun _ _=>rfl) hnm h1.mt.hi (Nat.le_refl _) (fun _ _ _ _ _ _ _ _ hg=>⟨hg,rfl⟩) I.z (fun _ _=>rfl) (fun _ _=>rfl) (fun B hB o=>by
  simp only [Go.Ex.addE];rw [if_neg (by have:=hB.lt hH.mt;omega)]
  exact hH.mt.z B hB o) h1.mt.own⟩
 ·obtain ⟨B,K,e1,e2⟩:=h1.cell i b hi;exact ⟨B,K,e1,e2.mono I⟩
 ·simp only [Go.Ex.addE] at hz;split at hz
  ·exact hz
  ·exact h1.zw B o v hz
 ·simp only [Go.Ex.addE]
  have:=hH.top i B K hE
  rw [if_neg (by omega)]
  exact hH.zd i b B K hi ho hE o
 ·simp only [Go.Ex.addE];rw [if_neg (by omega)]
  exact hrf k hk j
 ·simp only [Go.Ex.addE] at hv;split at hv
  ·intro a n' c e hn';exact Nat.le_trans hH.bot (H j v hv a n' c e hn')
  ·exact hH.rn.1 k j v hk hv
 ·simp only [Go.Ex.addE] at hz;rw [if_neg (by have:=hH.bot;omega)] at hz
  exact hH.rn.2 B o v hB hz
def JB (g:List Sv->PC->aB (Sv × PC)) (hp:T Blk) (nx:Nat) (args:List Sv) (pc:PC):aB (Sv × PC):=
 bif tG args then chk (pQ hp nx 0 args).2 ((g (pQ hp nx 0 args).1 pc).bind fun r=>bif below 0 r.1 then .leaf r else .fail)
 else g args pc
def xU:Sc->Bool
 | .fz (.root _ _) (.list cs _ _)=>cs.all fun s=>match s with
  | .list _=>false
  | _=>true
 | .fz _ _=>false
 | .fptr _ _ _ _ _ _=>false
 | .ptr (some _)=>false
 | .slice (some _) _ _=>false
 | .map (some _)=>false
 | .asl _ _ _=>false
 | .aptr _ _=>false
 | .fn _ _=>false
 | .own _ _=>false
 | .rptr _ _ _ _=>false
 | .mown _ _ _ _=>false
 | .mptr _ _ _ _=>false
 | _=>true
def P2:Sv->Bool
 | .one c=>xU c
 | .agg l=>l.all xU
 | .tup l=>l.all fun p=>p.2.all xU
 | .undef=>true
def tH (g:List Sv->PC->aB (Sv × PC)) (hp:T Blk) (nx:Nat) (args:List Sv) (pc:PC):aB (Sv × PC):=
 bif tG args then chk (pQ hp (nx+1) 0 args).2 ((g (pQ hp (nx+1) 0 args).1 pc).bind fun r=>bif P2 r.1 then .leaf r else .fail) else g args pc
theorem bK.flat {z z':Nat->Nat->Option Value} {d:FD} {s:Sh} {v:Value} (hs:(match s with | .list _=>false | _=>true)=true) (he:s.ex d=d) (h:bK z d v):bK z' d v:=by
 cases s with
 | list cs=>cases hs
 | bool=>rw [←he] at h ⊢;exact h
 | int k=>rw [←he] at h ⊢;exact h
 | str=>rw [←he] at h ⊢;exact h
theorem ML {p:Sh->Bool} : ∀ {cs:List Sh} {j:Nat},cs.all p=true->j<cs.length->p (jW cs j)=true
 | [],j,_,hj=>by simp at hj
 | s::l,0,h,_=>by
  simp only [List.all_cons,Bool.and_eq_true] at h;exact h.1
 | s::l,j+1,h,hj=>by
  simp only [List.all_cons,Bool.and_eq_true] at h;exact ML (cs:=l) (j:=j) h.2 (by simpa using hj)
theorem CM {η:Env} {E E1:Emb} {w w':World} {rr:Nat->Option Value} {n:Nat} (H : ∀ j u,rr j=some u->pZ w.heap.size u) {c:Sc} {v:Value} (hc:xU c=true) (h:(l0 n c).den η (Go.Ex.addE E1 w w' rr n)=some v):(l0 n c).den η (Go.Ex.addE E w w' rr n)=some v:=by
 cases c with
 | fz r d=>
  cases r with
  | root k j=>
   cases d with
   | list cs m f=>
    simp only [l0,M4,Sc.den] at h ⊢;obtain ⟨h1,h2⟩:=aP.1 h;refine aP.2 ⟨?_,?_⟩
    ·simpa [Ref.val,Go.Ex.addE] using h1
    ·obtain ⟨a,c,rfl,q1,q2,q3⟩:=h2;refine ⟨a,c,rfl,q1,q2,?_⟩
     rcases Nat.eq_zero_or_pos m with hm | hm
     ·exact .inl hm
     ·rcases q3 with q3 | ⟨B,o,rfl,hcell⟩
      ·omega
      ·have hB:w.heap.size<=B:=by
        have h1':rr j=some (.slice (some ⟨B,o,none⟩) m c):=by simpa [Ref.val,Go.Ex.addE] using h1
        exact H j _ h1' _ _ _ rfl hm
       refine .inr ⟨B,o,rfl,fun i hi j hj => ?_⟩
       obtain ⟨k1,u,k2,k3⟩:=hcell i hi j hj;refine ⟨k1,u,?_,bK.flat (ML hc hj) k1 k3⟩;simp only [Go.Ex.addE,if_pos hB] at k2 ⊢;exact k2
   | _=>cases hc
  | _=>cases hc
 | ptr a=>cases a with
  | none=>exact h
  | some a=>cases hc
 | slice a m k=>cases a with
  | none=>cases k<;>exact h
  | some a=>cases hc
 | map r=>cases r with
  | none=>exact h
  | some b=>cases hc
 | asl b k c=>cases hc
 | aptr b o=>cases hc
 | fn f cs=>cases hc
 | fptr r cs n f i j=>cases hc
 | own b k=>cases hc
 | rptr b sz i j=>cases hc
 | mown b q i n=>cases hc
 | mptr b q i j=>cases hc
 | _=>exact h
theorem xV {η:Env} {E E1:Emb} {w w':World} {rr:Nat->Option Value} {n:Nat} (H : ∀ j u,rr j=some u->pZ w.heap.size u) : ∀ {l:List Sc} {vs:List Value},l.all xU=true->aQ η (Go.Ex.addE E1 w w' rr n) (l.map (l0 n))=some vs->aQ η (Go.Ex.addE E w w' rr n) (l.map (l0 n))=some vs
 | [],vs,_,h=>h
 | c::l,vs,hc,h=>by
  simp only [List.all_cons,Bool.and_eq_true] at hc;obtain ⟨v,us,h1,h2,rfl⟩:=aR h;simp only [List.map_cons,aQ,CM H hc.1 h1,xV H hc.2 h2]
theorem sT {η:Env} {E E1:Emb} {w w':World} {rr:Nat->Option Value} {n:Nat} (H : ∀ j u,rr j=some u->pZ w.heap.size u) : ∀ {l:List (Bool × List Sc)} {vs:List Value},(l.all fun p=>p.2.all xU)=true->aN η (Go.Ex.addE E1 w w' rr n) (l.map fun p=>(p.1,p.2.map (l0 n)))=some vs->aN η (Go.Ex.addE E w w' rr n) (l.map fun p=>(p.1,p.2.map (l0 n)))=some vs
 | [],vs,_,h=>h
 | (b,c)::l,vs,hc,h=>by
  simp only [List.all_cons,Bool.and_eq_true] at hc;simp only [List.map_cons,aN] at h ⊢
  cases h1:bL η (Go.Ex.addE E1 w w' rr n) (b,c.map (l0 n)) with
  | none=>simp [h1] at h
  | some x=>
   cases h2:aN η (Go.Ex.addE E1 w w' rr n) (l.map fun p=>(p.1,p.2.map (l0 n))) with
   | none=>simp [h1,h2] at h
   | some y=>
    have e2:=sT (E:=E) H hc.2 h2
    have e1:bL η (Go.Ex.addE E w w' rr n) (b,c.map (l0 n))=some x:=by
     cases b with
     | true=>
      simp only [bL] at h1 ⊢
      cases h3:aQ η (Go.Ex.addE E1 w w' rr n) (c.map (l0 n)) with
      | none=>rw [h3] at h1;cases h1
      | some z=>rw [h3] at h1;rw [xV H hc.1 h3];exact h1
     | false=>
      cases c with
      | nil=>cases h1
      | cons c l=>cases l with
       | nil=>
        simp only [List.all_cons,Bool.and_eq_true] at hc;exact CM H hc.1.1 h1
       | cons d l=>cases h1
    rw [e1,e2];simpa [h1,h2] using h
theorem US {η:Env} {E E1:Emb} {w w':World} {rr:Nat->Option Value} {n:Nat} (H : ∀ j u,rr j=some u->pZ w.heap.size u) {s:Sv} {v:Value} (hs:P2 s=true) (h:(kI n s).den η (Go.Ex.addE E1 w w' rr n)=some v):(kI n s).den η (Go.Ex.addE E w w' rr n)=some v:=by
 cases s with
 | one c=>exact CM H hs h
 | agg l=>
  simp only [kI,Sv.den] at h ⊢
  cases h3:aQ η (Go.Ex.addE E1 w w' rr n) (l.map (l0 n)) with
  | none=>rw [h3] at h;cases h
  | some z=>rw [h3] at h;rw [xV H hs h3];exact h
 | tup l=>
  simp only [kI,Sv.den] at h ⊢
  cases h3:aN η (Go.Ex.addE E1 w w' rr n) (l.map fun p=>(p.1,p.2.map (l0 n))) with
  | none=>rw [h3] at h;cases h
  | some z=>rw [h3] at h;rw [sT H hs h3];exact h
 | undef=>exact h
def vB (C:Cx) (ih:FI->List Sv->St->aB (Sv × St)) (f:FuncId) (args:List Sv) (st:St):aB (Sv × St):=
 match C.sm.get f with
 | some g=>(JB g st.hp st.nx args st.pc).bind fun r => .leaf (r.1,{ st with pc:=r.2 })
 | none=>match C.hs.get f with
  | some g=>(g st.hp args st.pc).bind fun r => .leaf (r.1,{ st with pc:=r.2 })
  | none=>match C.gs.get f with
   | some g=>match Nat.ble (st.nx+1) 65000 with
    | true=>(tH g st.hp st.nx args st.pc).bind fun r => .leaf (kI st.nx r.1,{ st with nx:=st.nx+1,pc:=r.2 })
    | false => .fail
   | none=>match C.ft.get f with
    | some fi=>match fi.quiet with
     | true=>match C.es.get f with
      | some g=>(g st.hp st.nx st.lo args st.pc).bind fun r => .leaf (r.1,{ st with hp:=r.2.1.1,nx:=r.2.1.2,pc:=r.2.2 })
      | none=>(ih fi args { st with lo:=st.nx }).bind fun r=>bif below st.nx r.1 then .leaf (r.1,{ st with pc:=r.2.pc }) else .fail
     | false=>match C.es.get f with
      | some g=>(g st.hp st.nx st.lo args st.pc).bind fun r => .leaf (r.1,{ st with hp:=r.2.1.1,nx:=r.2.1.2,pc:=r.2.2 })
      | none=>(ih fi args st).bind fun r => .leaf (r.1,{ st with hp:=r.2.hp,nx:=r.2.nx,pc:=r.2.pc })
    | none => .fail
theorem CN {C:Cx} {P:Program} {η:Env} (hC:C.Ok P η) {f:FuncId} {g:List Sv->PC->aB (Sv × PC)} (hg:C.sm.get f=some g) {hp:T Blk} {nx top:Nat} {args:List Sv} {pc:PC} {r:Sv × PC} (h:(JB g hp nx args pc).at_ η=some r) (G:pc.holds η):
  r.2.holds η /\ ∀ E lo base w vs,aF η E hp top lo base w->(∀ j,E.r nx j=none)->aD η E args=some vs -> ∃ v,r.1.den η E=some v/\AG P f vs.toArray w v:=by
 unfold JB at h
 cases ha:tG args with
 | false=>
  rw [ha] at h;obtain ⟨h1,h2⟩:=hC.sm f g hg args pc r.1 r.2 h G;exact ⟨h1,fun E lo base w vs hH _ hv=>h2 E vs w hH.zw hv⟩
 | true=>
  rw [ha] at h;simp only [cond_true] at h;obtain ⟨hb,h⟩:=eZ h;obtain ⟨r1,e1,e2⟩:=aB.at_bind h
  cases hbl:below 0 r1.1 with
  | false=>rw [hbl] at e2;cases e2
  | true=>
   rw [hbl] at e2;cases e2;obtain ⟨h1,h2⟩:=hC.sm f g hg _ pc r.1 r.2 e1 G;refine ⟨h1,fun E lo base w vs hH hrn hv => ?_⟩
   have:=CL hH hrn hb hv
   obtain ⟨v,q1,q2⟩:=h2 _ vs w (fun B o v h=>h) this
   refine ⟨v,?_,q2⟩;rw [←Sv.den_agree (n:=0) (E:=E) (E':=MK E w nx fun i=>(sS args vs)[i]?) ⟨(fun i hi=>by omega),(fun k hk=>by omega),hH.zw,fun _ _ h=>h,rfl,fun _ _ _=>rfl⟩ hbl]
   exact q1
theorem tI {C:Cx} {P:Program} {η:Env} (hC:C.Ok P η) {f:FuncId} {g:List Sv->PC->aB (Sv × PC)} (hg:C.gs.get f=some g) {hp:T Blk} {nx top:Nat} {args:List Sv} {pc:PC} {r:Sv × PC} (h:(tH g hp nx args pc).at_ η=some r) (G:pc.holds η):
  r.2.holds η /\ ∀ E lo base w vs,aF η E hp top lo base w->(∀ j,E.r (nx+1) j=none)->aD η E args=some vs->(callFunc f vs.toArray).run P w = .ok (.enter f vs.toArray) w /\ ∀ n,n≠nx+1->(∀ j,E.r n j=none)->Calls P f vs.toArray w fun e w' => ∃ v rr,e = .returned v/\Below w.heap.size w w'/\(∀ j u,rr j=some u->pZ w.heap.size u)/\(kI n r.1).den η (Go.Ex.addE E w w' rr n)=some v:=by
 unfold tH at h
 cases ha:tG args with
 | false=>
  rw [ha] at h;obtain ⟨h1,h2⟩:=hC.gs f g hg args pc r.1 r.2 h G;exact ⟨h1,fun E lo base w vs hH _ hv=>⟨(h2 E vs w hH.zw hv).1,fun n _ hn=>(h2 E vs w hH.zw hv).2 n hn⟩⟩
 | true=>
  rw [ha] at h;simp only [cond_true] at h;obtain ⟨hb,h⟩:=eZ h;obtain ⟨r1,e1,e2⟩:=aB.at_bind h
  cases hbl:P2 r1.1 with
  | false=>rw [hbl] at e2;cases e2
  | true=>
   rw [hbl] at e2;cases e2;obtain ⟨h1,h2⟩:=hC.gs f g hg _ pc r.1 r.2 e1 G;refine ⟨h1,fun E lo base w vs hH hrn hv => ?_⟩
   obtain ⟨k1,k2⟩:=h2 _ vs w (fun B o v h=>h) (CL hH hrn hb hv)
   refine ⟨k1,fun n hnn hn=>(k2 n fun j => ?_).mono ?_⟩
   ·show (if n=nx+1 then _ else E.r n j)=none
    rw [if_neg hnn];exact hn j
   ·rintro e w' ⟨v,rr,rfl,q1,q2,q3⟩;exact ⟨v,rr,rfl,q1,q2,US q2 hbl q3⟩
theorem bU {P:Program} {f:FuncId} {fi:FI} (h:FI.Ok P f fi) (args:Array Value) (w:World):(callFunc f args).run P w = .ok (.enter f args) w:=by
 obtain ⟨fn,h1,h2,_,_,h5⟩:=h.fn
 have h5' : ¬ fn.name = "runtime.NumGoroutine" := by simpa using h5
 simp [callFunc,h1,h5',h2]
theorem vC {C:Cx} {P:Program} {η:Env} (hC:C.Ok P η) {ih:FI->List Sv->St->aB (Sv × St)} (hih:eO P η ih) {f:FuncId} {args:List Sv} {st:St} {r:Sv × St} (G:st.pc.holds η) (hlo:st.lo<=st.nx)
  (h:(vB C ih f args st).at_ η=some r):
  r.2.lo=st.lo/\r.2.tm=st.tm /\ ∀ E base w0 w vs,aF η E st.hp st.nx st.lo base w->Below base w0 w->aD η E args=some vs->
   (∃ v,r.1.den η E=some v/\(callFunc f vs.toArray).run P w = .ok (.value v) w/\r.2.hp=st.hp/\r.2.nx=st.nx/\r.2.pc.holds η)∨
   ((callFunc f vs.toArray).run P w = .ok (.enter f vs.toArray) w/\Calls P f vs.toArray w fun e w' => ∃ v E',e = .returned v/\r.1.den η E'=some v/\aJ E E' st.nx/\aF η E' r.2.hp r.2.nx st.lo base w'/\Below base w0 w'/\r.2.pc.holds η/\st.nx<=r.2.nx):=by
 unfold vB at h;split at h
 ·rename_i g hg;obtain ⟨⟨sv,pc⟩,h1,h2⟩:=aB.at_bind h
  cases h2
  obtain ⟨hp1,hg1⟩:=CN hC hg (top:=st.nx) h1 G;refine ⟨rfl,rfl,fun E base w0 w vs hH hB hv => ?_⟩
  obtain ⟨v,e1,e2⟩:=hg1 E _ _ w vs hH (hH.rfree _ (Nat.le_refl _)) hv
  rcases e2 with e2 | ⟨e2,e3⟩
  ·exact .inl ⟨v,e1,e2,rfl,rfl,hp1⟩
  ·refine .inr ⟨e2,e3.mono ?_⟩;rintro e w' ⟨rfl,hb⟩;exact ⟨v,E,rfl,e1,aJ.refl _ _,hH.below hb,hB.trans (hb.mono hH.bot),hp1,Nat.le_refl _⟩
 ·split at h
  ·rename_i g hg;obtain ⟨⟨sv,pc⟩,h1,h2⟩:=aB.at_bind h
   cases h2
   obtain ⟨hp1,hg1⟩:=hC.hs f g hg st.hp args st.pc sv pc h1 G;refine ⟨rfl,rfl,fun E base w0 w vs hH hB hv => ?_⟩
   obtain ⟨v,e1,e2⟩:=hg1 E vs _ _ _ w hH hv
   rcases e2 with e2 | ⟨e2,e3⟩
   ·exact .inl ⟨v,e1,e2,rfl,rfl,hp1⟩
   ·refine .inr ⟨e2,e3.mono ?_⟩;rintro e w' ⟨rfl,hb⟩;exact ⟨v,E,rfl,e1,aJ.refl _ _,hH.below hb,hB.trans (hb.mono hH.bot),hp1,Nat.le_refl _⟩
  split at h
  ·rename_i g hg;split at h
   ·rename_i hnx
    have hnx:=le_of_ble_eq_true hnx
    obtain ⟨⟨sv,pc⟩,h1,h2⟩:=aB.at_bind h
    cases h2
    obtain ⟨hp1,hg1⟩:=tI hC hg (top:=st.nx) h1 G;refine ⟨rfl,rfl,fun E base w0 w vs hH hB hv => ?_⟩
    obtain ⟨e1,e2⟩:=hg1 E _ _ w vs hH (hH.rfree _ (Nat.le_succ _)) hv;refine .inr ⟨e1,(e2 st.nx (by omega) (hH.rfree _ (Nat.le_refl _))).mono ?_⟩
    rintro e w' ⟨v,rr,rfl,hb,H,hd⟩;obtain ⟨q1,q2⟩:=hH.addE (n:=st.nx) (m:=st.nx+1) (rr:=rr) hb (Nat.lt_succ_self _) (Nat.le_succ _) hnx (hH.rfree _ (Nat.le_refl _)) (fun i hi=>hH.free i (by omega)) (fun i hi=>hH.rfree i (by omega)) H
    refine ⟨v,_,rfl,hd,⟨fun _ _=>rfl,fun k hk j => ?_,q1.z,fun _ _ h=>h,rfl,fun _ _ _=>rfl⟩,q2,hB.trans (hb.mono hH.bot),hp1,Nat.le_succ _⟩
    simp only [addE];rw [if_neg (by omega)]
   ·cases h
  split at h
  ·rename_i fi hfi
   have hF:=hC.ft f fi hfi
   split at h
   ·split at h
    ·rename_i g hg;obtain ⟨r1,h1,h2⟩:=aB.at_bind h
     cases h2
     exact ⟨rfl,rfl,fun E base w0 w vs hH hB hv => .inr (hC.es f g hg st.hp st.nx st.lo args st.pc r1 h1 G hlo E base w0 w vs hH hB hv)⟩
    obtain ⟨r1,h1,h2⟩:=aB.at_bind h
    cases hb:below st.nx r1.1 with
    | false=>rw [hb] at h2;cases h2
    | true=>
     rw [hb] at h2;cases h2
     have g3:=hih fi args { st with lo:=st.nx } r1 h1 f hF G (Nat.le_refl _)
     refine ⟨rfl,rfl,fun E base w0 w vs hH hB hv => .inr ⟨bU hF _ w,?_⟩⟩
     refine (g3 E.z00 w.heap.size w w vs hH.z00 (Below.refl _ _) (cJ E.le_z00 hv)).mono ?_;rintro e w' ⟨v,E',rfl,e1,e2,_,e4,e5,_⟩;refine ⟨v,E,rfl,?_,aJ.refl _ _,hH.below e4,hB.trans (e4.mono hH.bot),e5,Nat.le_refl _⟩;rw [Sv.den_agree e2 hb] at e1;exact Sv.den_mono E.z00_le e1
   ·split at h
    ·rename_i g hg;obtain ⟨r1,h1,h2⟩:=aB.at_bind h
     cases h2
     exact ⟨rfl,rfl,fun E base w0 w vs hH hB hv => .inr (hC.es f g hg st.hp st.nx st.lo args st.pc r1 h1 G hlo E base w0 w vs hH hB hv)⟩
    obtain ⟨r1,h1,h2⟩:=aB.at_bind h
    cases h2
    have g3:=hih fi args st r1 h1 f hF G hlo
    exact ⟨rfl,rfl,fun E base w0 w vs hH hB hv => .inr ⟨bU hF _ w,g3 E base w0 w vs hH hB hv⟩⟩
  ·cases h
end
end Go.Ex
namespace Go.Ex
open Go Go.RowKit
open Nat (le_of_ble_eq_true)
noncomputable section
def shZ:Nat->Sh->Sh->Bool
 | 0,_,_=>false
 | n+1,a,b=>match a,b with
  | .bool,.bool=>true
  | .int k,.int k'=>decide (k=k')
  | .str,.str=>true
  | .list [x],.list [y]=>shZ n x y
  | _,_=>false
theorem WB : ∀ {n:Nat} {a b:Sh},shZ n a b=true->a=b
 | 0,_,_,h=>by cases h
 | n+1,a,b,h=>by
  simp only [shZ] at h;split at h<;>first | (cases h;done) | skip
  ·rfl
  ·rw [of_decide_eq_true h]
  ·rfl
  ·rw [WB h]
def MM (c:Sc):Option (Sh × FD × List Nat):=
 match Q1 c with
 | some (s,d)=>some (s,d,[])
 | none=>none
def vD (F:Sc->Option (Sh × FD × List Nat)):Nat->List Sc->Option (List (Sh × FD × List Nat))
 | 0,_=>some []
 | _+1,[]=>none
 | m+1,c::l=>match F c,vD F m l with
  | some x,some r=>some (x::r)
  | _,_=>none
def A9:List (Sh × FD × List Nat)->List Nat
 | []=>[]
 | x::l=>x.2.2++A9 l
def P3:List (Sh × FD × List Nat)->List FD
 | []=>[]
 | x::l=>x.2.1::P3 l
def MN (hp:T Blk):Nat->Sc->Option (Sh × FD × List Nat)
 | 0,c=>MM c
 | n+1,c=>match c with
  | .slice (some (b,0)) m (.rest _)=>match hp.get b with
   | some (.cells _ sz l)=>bif Nat.beq sz 1 then match vD (MN hp n) m l with
     | some (x::r)=>bif r.all (fun y=>shZ 9 x.1 y.1) then some (.list [x.1],.list [x.1] m (fun i _=>bD (P3 (x::r)) i),b::A9 (x::r)) else none
     | _=>none
    else none
   | _=>none
  | c=>MM c
theorem vE {F:Sc->Option (Sh × FD × List Nat)} : ∀ {m:Nat} {l:List Sc} {xs:List (Sh × FD × List Nat)},vD F m l=some xs->xs.length=m /\ ∀ i,i<m -> ∃ c x,l[i]? = some c/\xs[i]? = some x/\F c=some x
 | 0,l,xs,h=>by cases h;exact ⟨rfl,fun i hi=>by omega⟩
 | m+1,[],xs,h=>by cases h
 | m+1,c::l,xs,h=>by
  simp only [vD] at h;split at h
  ·rename_i x r hx hr
   cases h
   obtain ⟨h1,h2⟩:=vE hr;refine ⟨by simp [h1],fun i hi => ?_⟩
   cases i with
   | zero=>exact ⟨c,x,rfl,rfl,hx⟩
   | succ i=>
    obtain ⟨c',x',q1,q2,q3⟩:=h2 i (by omega)
    exact ⟨c',x',by simpa using q1,by simpa using q2,q3⟩
  ·cases h
theorem SS : ∀ {xs:List (Sh × FD × List Nat)} {i:Nat} {x:Sh × FD × List Nat},xs[i]? = some x->bD (P3 xs) i=x.2.1
 | y::l,0,x,h=>by cases h;rfl
 | y::l,i+1,x,h=>by
  show bD (P3 l) i=_
  exact SS (by simpa using h)
theorem z7 : ∀ {xs:List (Sh × FD × List Nat)} {i:Nat} {x:Sh × FD × List Nat},xs[i]? = some x -> ∀ b∈x.2.2,b∈A9 xs
 | y::l,0,x,h,b,hb=>by cases h;exact List.mem_append_left _ hb
 | y::l,i+1,x,h,b,hb=>List.mem_append_right _ (z7 (by simpa using h) b hb)
theorem CO : ∀ {xs:List (Sh × FD × List Nat)} {b:Nat},b∈A9 xs -> ∃ x∈xs,b∈x.2.2
 | y::l,b,h=>by
  rcases List.mem_append.1 h with h | h
  ·exact ⟨y,List.mem_cons_self ..,h⟩
  ·obtain ⟨x,h1,h2⟩:=CO h;exact ⟨x,List.mem_cons_of_mem _ h1,h2⟩
theorem MO {η:Env} {E:Emb} {c:Sc} {s:Sh} {d:FD} {bs:List Nat} {v:Value} (h:MM c=some (s,d,bs)) (hv:c.den η E=some v):bs=[]/\s.ex d=d/\bK E.z d v:=by
 unfold MM at h;split at h
 ·rename_i s' d' hs
  cases h
  obtain ⟨h1,h2⟩:=vU hs hv;exact ⟨rfl,h1,h2⟩
 ·cases h
theorem HH {η:Env} {E:Emb} : ∀ {l:List Sc} {vs:List Value} {i:Nat} {c:Sc},aQ η E l=some vs->l[i]? = some c -> ∃ u,vs[i]? = some u/\c.den η E=some u
 | a::l,vs,i,c,h,hi=>by
  obtain ⟨u,us,e1,e2,rfl⟩:=aR h
  cases i with
  | zero=>cases hi;exact ⟨u,rfl,e1⟩
  | succ i=>
   obtain ⟨u',g1,g2⟩:=HH e2 (show l[i]? = some c by simpa using hi)
   exact ⟨u',by simpa using g1,g2⟩
theorem BA {η:Env} {E:Emb} {hp:T Blk} {nx lo base:Nat} {w:World} (hH:aF η E hp nx lo base w) {Z:Nat->Nat->Option Value} (hz : ∀ B o u,E.z B o=some u->Z B o=some u) : ∀ {n:Nat} {c:Sc} {s:Sh} {d:FD} {bs:List Nat} {v:Value},MN hp n c=some (s,d,bs)->c.den η E=some v->
  (∀ b∈bs,∃ x,hp.get b=some x)/\((∀ b∈bs,∀ B K,E b=some (B,K) -> ∀ o u,w.cell? ⟨B,o,none⟩=some u->Z B o=some u)->s.ex d=d/\bK Z d v)
 | 0,c,s,d,bs,v,h,hv=>by
  obtain ⟨rfl,h1,h2⟩:=MO h hv;exact ⟨(fun b hb=>by cases hb),fun _=>⟨h1,h2.mono hz⟩⟩
 | n+1,c,s,d,bs,v,h,hv=>by
  simp only [MN] at h;split at h
  ·rename_i b m r;split at h
   ·rename_i e sz l hb
    cases hsz:Nat.beq sz 1 with
    | false=>rw [hsz] at h;cases h
    | true=>
     rw [hsz] at h
     have hsz:=Nat.eq_of_beq_eq_true hsz
     subst hsz;simp only [cond_true] at h;split at h
     ·rename_i x xs hxs
      cases ha:xs.all (fun y=>shZ 9 x.1 y.1) with
      | false=>rw [ha] at h;cases h
      | true=>
       rw [ha] at h;simp only [cond_true,Option.some.injEq,Prod.mk.injEq] at h;obtain ⟨rfl,rfl,rfl⟩:=h;obtain ⟨hl,hg⟩:=vE hxs;obtain ⟨B,K,hE,c',vs,rest,q1,q2,q3,q4,q5⟩:=hH.cell b _ hb;simp only [Sc.den,hE] at hv;split at hv<;>first | (cases hv;done) | skip
       rename_i hmr
       have hmr:m+r<=K:=hmr
       simp only [Option.some.injEq] at hv;subst hv
       have hall : ∀ (i:Nat) (y:Sh × FD × List Nat),(x::xs)[i]? = some y->y.1=x.1:=fun i y hy=>by
        cases i with
        | zero=>cases hy;rfl
        | succ i=>
         have:=List.all_eq_true.1 ha y (List.mem_of_getElem? (by simpa using hy))
         exact (WB this).symm
       have hden : ∀ (i:Nat) (c'':Sc),l[i]? = some c'' -> ∃ u,vs[i]? = some u/\c''.den η E=some u:=fun i c'' hi=>HH q4 hi
       have hcell : ∀ i u,vs[i]? = some u->w.cell? ⟨B,i,none⟩=some u:=fun i u hi=>by
        rw [cell_of_row w B i c' e (0,0) q1,←Array.getElem?_toList,q5,List.getElem?_append_left (List.getElem?_eq_some_iff.1 hi).1];exact hi
       refine ⟨fun b' hb' => ?_,fun hZ=>⟨rfl,some ⟨B,0,none⟩,K-r,rfl,by omega,by omega,.inr ⟨B,0,rfl,fun i hi j hj => ?_⟩⟩⟩
       ·cases hb' with
        | head=>exact ⟨_,hb⟩
        | tail _ hb'=>
         obtain ⟨y,hy1,hy2⟩:=CO hb';obtain ⟨i,hi⟩:=List.mem_iff_getElem?.1 hy1;obtain ⟨c'',y',g1,g2,g3⟩:=hg i (by have:=(List.getElem?_eq_some_iff.1 hi).1;omega)
         rw [hi] at g2;cases g2;obtain ⟨u,_,hu⟩:=hden i c'' g1;obtain ⟨ys,yd,yb⟩:=y;exact (BA hH hz g3 hu).1 b' hy2
       ·obtain ⟨c'',y,g1,g2,g3⟩:=hg i hi;obtain ⟨u,hu1,hu2⟩:=hden i c'' g1
        have hj:j=0:=by simpa using hj
        subst hj
        have e1:=hall i y g2
        have e2:=SS g2
        have:=(BA hH hz (show MN hp n c''=some (y.1,y.2.1,y.2.2) from g3) hu2).2 fun b' hb'=>hZ b' (List.mem_cons_of_mem _ (z7 g2 b' hb'))
        refine ⟨?_,u,?_,?_⟩
        ·show x.1.ex (bD (P3 (x::xs)) i)=bD (P3 (x::xs)) i
         rw [e2,←e1];exact this.1
        ·have:0+(i*[x.1].length+0)=i:=by simp
         rw [this];exact hZ b (List.mem_cons_self ..) B K hE i u (hcell i u hu1)
        ·show bK Z (bD (P3 (x::xs)) i) u
         rw [e2];exact this.2
     ·cases h
   ·cases h
  ·obtain ⟨rfl,h1,h2⟩:=MO h hv;exact ⟨(fun b hb=>by cases hb),fun _=>⟨h1,h2.mono hz⟩⟩
def G5 (hp:T Blk)(s:Sv):Option (FD × List Nat):=
 match s with
 | .one (.slice (some (b,0)) m c)=>match MN hp 6 (.slice (some (b,0)) m c) with
  | some (_,d,bs)=>some (d,bs)
  | none=>none
 | _=>none
def eH (hp:T Blk)(nx:Nat):Nat->List Sv->List Sv × List Nat
 | _,[]=>([],[])
 | k,s::l=>match G5 hp s with
  | some (d,bs)=>(.one (.fz (.root nx k) d)::(eH hp nx (k+1) l).1,bs++(eH hp nx (k+1) l).2)
  | none=>(s::(eH hp nx (k+1) l).1,(eH hp nx (k+1) l).2)
def CP (hp:T Blk):List Nat->T Blk
 | []=>hp
 | b::l=>(CP hp l).set b none
theorem HI {hp:T Blk} : ∀ {bs:List Nat} {i:Nat} {x:Blk},(∀ b∈bs,b<65535)->(CP hp bs).get i=some x->hp.get i=some x/\i ∉ bs
 | [],i,x,_,h=>⟨h,by simp⟩
 | b::l,i,x,hl,h=>by
  simp only [CP] at h
  by_cases e:b=i
  ·subst e;rw [T.get_set_same _ _ _ (hl b (List.mem_cons_self ..))] at h
   cases h
  ·rw [T.get_set_ne _ _ _ _ e] at h;obtain ⟨h1,h2⟩:=HI (fun b hb=>hl b (List.mem_cons_of_mem _ hb)) h
   exact ⟨h1,by simp [h2,Ne.symm e]⟩
def abG (o:Option (FD × List Nat)):Bool:=
 match o with
 | some _=>true
 | none=>false
def zOr (p:Prop)(a b:Option Value):Option Value := @ite _ p (Classical.propDecidable p) a b
theorem ST {p:Prop} (h:p) (a b:Option Value):zOr p a b=a:=by unfold zOr;rw [if_pos h]
theorem kU (p:Prop)(a b:Option Value):(p/\zOr p a b=a)∨(¬ p/\zOr p a b=b):=by
 by_cases h:p
 ·exact .inl ⟨h,ST h a b⟩
 ·exact .inr ⟨h,by unfold zOr;rw [if_neg h]⟩
def vF (E:Emb)(bs:List Nat)(B:Nat):Prop := ∃ b∈bs,∃ K,E.b b=some (B,K)
def aab (E:Emb)(hp:T Blk)(nx:Nat)(args:List Sv)(vs:List Value)(bs:List Nat)(w:World):Emb:=
 ⟨E.b,fun k j=>if k=nx then (match args[j]? with
  | some s=>if abG (G5 hp s)=true then vs[j]? else none
  | none=>none) else E.r k j,fun B o=>zOr (vF E bs B) (w.cell? ⟨B,o,none⟩) (E.z B o),E.d,E.dl,E.m⟩
theorem vG {η:Env} {E:Emb} : ∀ {l:List Sv} {vs:List Value} {j:Nat} {s:Sv},aD η E l=some vs->l[j]? = some s -> ∃ v,vs[j]? = some v/\s.den η E=some v
 | a::l,vs,j,s,h,hj=>by
  obtain ⟨v,us,h1,h2,rfl⟩:=aI h
  cases j with
  | zero=>cases hj;exact ⟨v,rfl,h1⟩
  | succ j=>
   obtain ⟨u,g1,g2⟩:=vG h2 (by simpa using hj)
   exact ⟨u,by simpa using g1,g2⟩
theorem xW {hp:T Blk} {s:Sv} {d:FD} {bs:List Nat} (h:G5 hp s=some (d,bs)) : ∃ b m c sh,s = .one (.slice (some (b,0)) m c)/\MN hp 6 (.slice (some (b,0)) m c)=some (sh,d,bs)/\b∈bs:=by
 unfold G5 at h;split at h
 ·rename_i b m c;split at h
  ·rename_i sh d' bs' hc
   cases h
   refine ⟨b,m,c,sh,rfl,hc,?_⟩
   cases c with
   | known c=>simp only [MN,MM,Q1] at hc;cases hc
   | rest r=>
    simp only [MN] at hc;split at hc
    ·rename_i e sz l hb
     cases hsz:Nat.beq sz 1 with
     | false=>rw [hsz] at hc;cases hc
     | true=>
      rw [hsz] at hc;simp only [cond_true] at hc;split at hc
      ·rename_i x xs hx
       cases ha:xs.all (fun y=>shZ 9 x.1 y.1) with
       | false=>rw [ha] at hc;cases hc
       | true=>rw [ha] at hc;cases hc;exact List.mem_cons_self ..
      ·cases hc
    ·cases hc
  ·cases h
 ·cases h
theorem aac {η:Env} {E:Emb} {hp:T Blk} {nx lo base:Nat} {w:World} (hH:aF η E hp nx lo base w) (args:List Sv) (vs:List Value) (bs:List Nat):E.le (aab E hp nx args vs bs w):=by
 refine ⟨fun b x h=>h,fun k j v h => ?_,fun B o v h => ?_,fun _ _ _ h=>h⟩
 ·show (if k=nx then _ else E.r k j)=some v
  by_cases e:k=nx
  ·subst e;rw [hH.rfree _ (Nat.le_refl _)] at h;cases h
  ·rw [if_neg e];exact h
 ·show zOr (vF E bs B) (w.cell? ⟨B,o,none⟩) (E.z B o)=some v
  rcases kU (vF E bs B) (w.cell? ⟨B,o,none⟩) (E.z B o) with ⟨_,e⟩ | ⟨_,e⟩
  ·rw [e];exact hH.zw B o v h
  ·rw [e];exact h
theorem MP {η:Env} {E E':Emb} {hp:T Blk} {nx lo base:Nat} {w:World} (hH:aF η E hp nx lo base w) (I:E.le E') : ∀ {l:List Sv} {k:Nat} {vs:List Value},aD η E l=some vs->(∀ j s,l[j]? = some s->abG (G5 hp s)=true->E'.r nx (k+j)=vs[j]?)->
  (∀ b∈(eH hp nx k l).2,∀ B K,E b=some (B,K) -> ∀ o u,w.cell? ⟨B,o,none⟩=some u->E'.z B o=some u)->aD η E' (eH hp nx k l).1=some vs
 | [],k,vs,h,_,_=>by cases h;rfl
 | s::l,k,vs,h,hr,hb=>by
  obtain ⟨v,us,h1,h2,rfl⟩:=aI h
  have ih:(∀ b∈(eH hp nx (k+1) l).2,∀ B K,E b=some (B,K) -> ∀ o u,w.cell? ⟨B,o,none⟩=some u->E'.z B o=some u)->aD η E' (eH hp nx (k+1) l).1=some us:=fun hb'=>
   MP hH I h2 (fun j s' hj hs=>by
    have:=hr (j+1) s' (by simpa using hj) hs
    rw [show k+(j+1)=k+1+j by omega] at this
    simpa using this) hb'
  simp only [eH] at hb ⊢
  cases hs:G5 hp s with
  | none=>
   rw [hs] at hb;simp only [aD,Sv.den_mono I h1,ih hb]
  | some p=>
   obtain ⟨d,bs⟩:=p;rw [hs] at hb;simp only at hb ⊢;obtain ⟨b,m,c,sh,rfl,hc,_⟩:=xW hs
   have hv:E'.r nx k=some v:=by
    have:=hr 0 _ rfl (by rw [hs];rfl)
    simpa using this
   have hd:(Sc.slice (some (b,0)) m c).den η E=some v:=h1
   have:=(BA hH I.z hc hd).2 fun b' hb'=>hb b' (List.mem_append_left _ hb')
   have hf:(Sv.one (.fz (.root nx k) d)).den η E'=some v:=by
    show sX E' (.root nx k) d=some v
    exact aP.2 ⟨hv,this.2⟩
   simp only [aD,hf,ih fun b' hb'=>hb b' (List.mem_append_right _ hb')]
theorem pR {η:Env} {E:Emb} {hp:T Blk} {nx lo base:Nat} {w:World} (hH:aF η E hp nx lo base w) : ∀ {l:List Sv} {k:Nat} {vs:List Value},aD η E l=some vs -> ∀ b∈(eH hp nx k l).2,∃ x,hp.get b=some x
 | [],k,vs,h,b,hb=>by cases hb
 | s::l,k,vs,h,b,hb=>by
  obtain ⟨v,us,h1,h2,rfl⟩:=aI h;simp only [eH] at hb
  cases hs:G5 hp s with
  | none=>rw [hs] at hb;exact pR hH h2 b hb
  | some p=>
   obtain ⟨d,bs⟩:=p;rw [hs] at hb
   have hb1:b∈bs++(eH hp nx (k+1) l).2:=hb
   rcases List.mem_append.1 hb1 with hb2 | hb2
   ·obtain ⟨b0,m,c,sh,rfl,hc,_⟩:=xW hs
    have hd:(Sc.slice (some (b0,0)) m c).den η E=some v:=h1
    exact (BA hH (fun _ _ _ h=>h) hc hd).1 b hb2
   ·exact pR hH h2 b hb2
theorem MQ {hp:T Blk} {nx:Nat} : ∀ {l:List Sv} {k j:Nat} {s:Sv} {d:FD} {bs:List Nat},l[j]? = some s->G5 hp s=some (d,bs) -> ∀ b∈bs,b∈(eH hp nx k l).2
 | a::l,k,0,s,d,bs,h,hs,b,hb=>by
  cases h
  simp only [eH,hs];exact List.mem_append_left _ hb
 | a::l,k,j+1,s,d,bs,h,hs,b,hb=>by
  have:=MQ (nx:=nx) (k:=k+1) (show l[j]? = some s by simpa using h) hs b hb
  simp only [eH];split
  ·exact List.mem_append_right _ this
  ·exact this
theorem aad {η:Env} {E:Emb} {hp:T Blk} {nx lo base:Nat} {w:World} (hH:aF η E hp nx lo base w) {args:List Sv} {vs:List Value} (hv:aD η E args=some vs) (hlo:lo<=nx) (hnx:nx+1<=65000) (hbl : ∀ b∈(eH hp nx 0 args).2,lo<=b):
  aF η (aab E hp nx args vs (eH hp nx 0 args).2 w) (CP hp (eH hp nx 0 args).2) (nx+1) lo base w/\aJ E (aab E hp nx args vs (eH hp nx 0 args).2 w) nx/\aD η (aab E hp nx args vs (eH hp nx 0 args).2 w) (eH hp nx 0 args).1=some vs:=by
 have I:=aac hH args vs (eH hp nx 0 args).2
 have hsm : ∀ b∈(eH hp nx 0 args).2,b<65535:=fun b hb=>by
  obtain ⟨x,hx⟩:=pR hH hv b hb
  have:=hH.dom b x hx
  omega
 have hget : ∀ i x,(CP hp (eH hp nx 0 args).2).get i=some x->hp.get i=some x/\i ∉ (eH hp nx 0 args).2:=fun i x h=>HI hsm h
 refine ⟨⟨fun i b hi=>Nat.lt_succ_of_lt (hH.dom i b (hget i b hi).1),fun i b hi => ?_,fun i j b c B C K L hne hi hj=>hH.inj i j b c B C K L hne (hget i b hi).1 (hget j c hj).1,hH.hi,hH.top,hH.bot,fun i hi=>hH.free i (by omega),hnx,fun B o v hz => ?_,fun i b B K hi ho hE o => ?_,fun k hk j => ?_,fun D o hD=>⟨(hH.dk D o hD).1,(hH.dk D o hD).2.1,(hH.dk D o hD).2.2.1.of (fun j v hz=>by
  have hz:zOr (vF E (eH hp nx 0 args).2 D) (w.cell? ⟨D,j,none⟩) (E.z D j)=some v:=hz
  rcases kU (vF E (eH hp nx 0 args).2 D) (w.cell? ⟨D,j,none⟩) (E.z D j) with ⟨hex,_⟩ | ⟨_,e⟩
  ·obtain ⟨b',_,K',hE'⟩:=hex;exact absurd hE' ((hH.dk D o hD).2.2.2 b' K')
  ·rw [e] at hz;exact hz) (fun q i L h=>⟨q,i,L,h⟩),(hH.dk D o hD).2.2.2⟩,⟨fun k j v hk hr => ?_,fun B o v hB hz => ?_⟩,?_⟩,⟨fun _ _=>rfl,fun k hk j => ?_,I.z,fun _ _ h=>h,rfl,fun _ _ _=>rfl⟩,?_⟩
 ·obtain ⟨B,K,h1,h2⟩:=hH.cell i b (hget i b hi).1;exact ⟨B,K,h1,h2.mono I⟩
 ·have hz:zOr (vF E (eH hp nx 0 args).2 B) (w.cell? ⟨B,o,none⟩) (E.z B o)=some v:=hz
  rcases kU (vF E (eH hp nx 0 args).2 B) (w.cell? ⟨B,o,none⟩) (E.z B o) with ⟨_,e⟩ | ⟨_,e⟩
  ·rw [e] at hz;exact hz
  ·rw [e] at hz;exact hH.zw B o v hz
 ·show zOr (vF E (eH hp nx 0 args).2 B) (w.cell? ⟨B,o,none⟩) (E.z B o)=none
  obtain ⟨g1,g2⟩:=hget i b hi
  rcases kU (vF E (eH hp nx 0 args).2 B) (w.cell? ⟨B,o,none⟩) (E.z B o) with ⟨hex,e⟩ | ⟨_,e⟩
  ·obtain ⟨b',hb',K',hE'⟩:=hex;obtain ⟨x,hx⟩:=pR hH hv b' hb';exact absurd rfl (hH.inj i b' b x B B K K' (fun e=>g2 (by rw [e];exact hb')) g1 hx hE hE')
  ·rw [e];exact hH.zd i b B K g1 ho hE o
 ·show (if k=nx then _ else E.r k j)=none
  rw [if_neg (by omega)]
  exact hH.rfree k (by omega) j
 ·have hr:(if k=nx then (match args[j]? with
   | some s=>if abG (G5 hp s)=true then vs[j]? else none
   | none=>none) else E.r k j)=some v:=hr
  split at hr
  ·split at hr
   ·rename_i s hs;split at hr
    ·rename_i hf
     cases hfs:G5 hp s with
     | none=>rw [hfs] at hf;cases hf
     | some p=>
      obtain ⟨d,bs⟩:=p;obtain ⟨b,m,c,sh,rfl,hc,hb⟩:=xW hfs;obtain ⟨v',q1,q2⟩:=vG hv hs;rw [hr] at q1;cases q1;obtain ⟨B,K,m',e1,e2,_⟩:=fH q2;subst e2;intro a n c' e hn
      cases e
      exact hH.hi b B K (hbl b (MQ hs hfs b hb)) e1
    ·cases hr
   ·cases hr
  ·exact hH.rn.1 k j v hk hr
 ·have hz:zOr (vF E (eH hp nx 0 args).2 B) (w.cell? ⟨B,o,none⟩) (E.z B o)=some v:=hz
  rcases kU (vF E (eH hp nx 0 args).2 B) (w.cell? ⟨B,o,none⟩) (E.z B o) with ⟨hex,e⟩ | ⟨_,e⟩
  ·obtain ⟨b,hb,K,hE⟩:=hex
   have:=hH.hi b B K (hbl b hb) hE
   omega
  ·rw [e] at hz;exact hH.rn.2 B o v hB hz
 ·refine hH.mt.keep (fun _ _=>rfl) (Nat.le_succ _) hH.mt.hi (Nat.le_refl _) (fun b q e s n x m f hg=>⟨(hget _ _ hg).1,rfl⟩) I.z (fun _ _=>rfl) (fun _ _=>rfl) (fun B hB o => ?_) (fun B hB j c K hj hE=>hH.mt.own B hB j c K (hget _ _ hj).1 hE)
  show zOr (vF E (eH hp nx 0 args).2 B) (w.cell? ⟨B,o,none⟩) (E.z B o)=none
  rcases kU (vF E (eH hp nx 0 args).2 B) (w.cell? ⟨B,o,none⟩) (E.z B o) with ⟨hex,e⟩ | ⟨_,e⟩
  ·obtain ⟨b',hb',K',hE'⟩:=hex;obtain ⟨x,hx⟩:=pR hH hv b' hb';exact (hH.mt.own B hB b' x K' hx hE').elim
  ·rw [e];exact hH.mt.z B hB o
 ·show (if k=nx then _ else E.r k j)=E.r k j
  rw [if_neg (by omega)]
 ·refine MP hH I hv (fun j s hj hs => ?_) (fun b hb B K hE o u hu => ?_)
  ·show (if nx=nx then _ else _)=_
   rw [if_pos rfl,Nat.zero_add,hj];simp only [hs,if_true]
  ·show zOr (vF E (eH hp nx 0 args).2 B) (w.cell? ⟨B,o,none⟩) (E.z B o)=some u
   rw [ST ⟨b,hb,K,hE⟩];exact hu
def abg (C:Cx)(f:FuncId):Bool:=
 match C.sm.get f,C.gs.get f with
 | none,none=>false
 | _,_=>true
def adA:List Nat->Bool
 | []=>true
 | _=>false
def P4 (C:Cx) (ih:FI->List Sv->St->aB (Sv × St)) (f:FuncId) (args:List Sv) (st:St):aB (Sv × St):=
 bif abg C f&&(!adA (eH st.hp st.nx 0 args).2&&((eH st.hp st.nx 0 args).2.all (fun b=>Nat.ble st.lo b)&&Nat.ble (st.nx+1) 65000)) then
  vB C ih f (eH st.hp st.nx 0 args).1 { st with hp:=CP st.hp (eH st.hp st.nx 0 args).2,nx:=st.nx+1 }
 else vB C ih f args st
theorem P5 {C:Cx} {P:Program} {η:Env} (hC:C.Ok P η) {ih:FI->List Sv->St->aB (Sv × St)} (hih:eO P η ih) {f:FuncId} {args:List Sv} {st:St} {r:Sv × St} (G:st.pc.holds η) (hlo:st.lo<=st.nx)
  (h:(P4 C ih f args st).at_ η=some r):
  r.2.lo=st.lo/\r.2.tm=st.tm /\ ∀ E base w0 w vs,aF η E st.hp st.nx st.lo base w->Below base w0 w->aD η E args=some vs->
   (∃ v E',r.1.den η E'=some v/\(callFunc f vs.toArray).run P w = .ok (.value v) w/\aJ E E' st.nx/\aF η E' r.2.hp r.2.nx st.lo base w/\r.2.pc.holds η/\st.nx<=r.2.nx)∨
   ((callFunc f vs.toArray).run P w = .ok (.enter f vs.toArray) w/\Calls P f vs.toArray w fun e w' => ∃ v E',e = .returned v/\r.1.den η E'=some v/\aJ E E' st.nx/\aF η E' r.2.hp r.2.nx st.lo base w'/\Below base w0 w'/\r.2.pc.holds η/\st.nx<=r.2.nx):=by
 unfold P4 at h
 cases hc:(abg C f&&(!adA (eH st.hp st.nx 0 args).2&&((eH st.hp st.nx 0 args).2.all (fun b=>Nat.ble st.lo b)&&Nat.ble (st.nx+1) 65000))) with
 | false=>
  rw [hc] at h;obtain ⟨h1,h2,h3⟩:=vC hC hih G hlo h;refine ⟨h1,h2,fun E base w0 w vs hH hB hv => ?_⟩
  rcases h3 E base w0 w vs hH hB hv with ⟨v,e1,e2,e3,e4,e5⟩ | h3
  ·exact .inl ⟨v,E,e1,e2,aJ.refl _ _,by rw [e3,e4];exact hH,e5,by omega⟩
  ·exact .inr h3
 | true=>
  rw [hc] at h;simp only [Bool.and_eq_true] at hc;obtain ⟨_,_,hall,hnx⟩:=hc
  have hnx:=le_of_ble_eq_true hnx
  obtain ⟨h1,h2,h3⟩:=vC (st:={ st with hp:=CP st.hp (eH st.hp st.nx 0 args).2,nx:=st.nx+1 }) hC hih G (by show st.lo<=st.nx+1;omega) h
  refine ⟨h1,h2,fun E base w0 w vs hH hB hv => ?_⟩
  obtain ⟨g1,g2,g3⟩:=aad hH hv hlo hnx fun b hb=>le_of_ble_eq_true (List.all_eq_true.1 hall b hb)
  rcases h3 _ base w0 w vs g1 hB g3 with ⟨v,e1,e2,e3,e4,e5⟩ | ⟨e1,e2⟩
  ·exact .inl ⟨v,_,e1,e2,g2,by rw [e3,e4];exact g1,e5,by rw [e4];exact Nat.le_succ _⟩
  ·refine .inr ⟨e1,e2.mono ?_⟩;rintro e w' ⟨v,E',q1,q2,q3,q4,q5,q6,q7⟩;exact ⟨v,E',q1,q2,g2.trans (q3.less (Nat.le_succ _)) (Nat.le_refl _),q4,q5,q6,Nat.le_trans (Nat.le_succ _) q7⟩
end
end Go.Ex
