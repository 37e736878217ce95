/-
 All operations that leave memory alone, together.
-/
import Derived.Test.YtdpabnfcfakjeaaExM
import Derived.Laws.MakeOwn
import Derived.Maps.AppendAt
import Derived.Carry
namespace Go.Ex
open Go Go.RowKit
noncomputable section
def evL (tm:T Sv):List Operand->Option (List Sv)
 | []=>some []
 | x::l=>match evX tm x,evL tm l with
  | some s,some r=>some (s::r)
  | _,_=>none
def u9 (tm:T Sv):List (Nat × Operand)->Option (List (Nat × Sv))
 | []=>some []
 | (i,x)::l=>match evX tm x,u9 tm l with
  | some s,some r=>some ((i,s)::r)
  | _,_=>none
def evO (tm:T Sv):Option Operand->Option (Option Sv)
 | none=>some none
 | some x=>match evX tm x with
  | some s=>some (some s)
  | none=>none
theorem kJ {η:Env} {E:Emb} {tm:T Sv} {a:Act} : ∀ {l:List Operand} {r},(∀ x∈l,nI η E tm a x)->evL tm l=some r->aD η E r=some (l.map a.eval)
 | [],r,_,h=>by cases h;rfl
 | x::l,r,hx,h=>by
  simp only [evL] at h;split at h
  ·rename_i s r' h1 h2
   cases h
   have e1:=hx x (List.mem_cons_self ..) s h1
   have e2:=kJ (fun y hy=>hx y (List.mem_cons_of_mem _ hy)) h2
   simp [aD,e1,e2]
  ·cases h
theorem pM {η:Env} {E:Emb} {tm:T Sv} {a:Act} : ∀ {l:List (Nat × Operand)} {r},(∀ p∈l,nI η E tm a p.2)->u9 tm l=some r->p7 η E r (l.map fun p=>(p.1,a.eval p.2))
 | [],r,_,h=>by cases h;trivial
 | (i,x)::l,r,hx,h=>by
  simp only [u9] at h;split at h
  ·rename_i s r' h1 h2
   cases h
   exact ⟨rfl,hx (i,x) (List.mem_cons_self ..) s h1,pM (fun y hy=>hx y (List.mem_cons_of_mem _ hy)) h2⟩
  ·cases h
theorem A8 {η:Env} {E:Emb} {tm:T Sv} {a:Act} {o:Option Operand} {r} (hx : ∀ x,o=some x->nI η E tm a x) (h:evO tm o=some r):oO η E r (o.map a.eval):=by
 cases o with
 | none=>cases h;trivial
 | some x=>
  simp only [evO] at h;split at h
  ·rename_i s h1;cases h;exact hx x rfl s h1
  ·cases h
def caps:List Sv->Option (List (Nat × Nat))
 | []=>some []
 | .one (.ptr (some a))::l=>match caps l with
  | some r=>some (a::r)
  | none=>none
 | _=>none
theorem MD {η:Env} {E:Emb} : ∀ {l:List Sv} {r vs},caps l=some r->aD η E l=some vs->b7 E r=some vs
 | [],r,vs,h,hv=>by cases h;cases hv;rfl
 | s::l,r,vs,h,hv=>by
  obtain ⟨v,us,h1,h2,rfl⟩:=aI hv;unfold caps at h;split at h
  ·rename_i he;cases he
  ·rename_i a l' he
   cases he
   split at h
   ·rename_i r' hr
    cases h
    obtain ⟨b,o⟩:=a;obtain ⟨B,K,hE,rfl⟩:=kN h1;simp [b7,bV,hE,MD hr h2]
   ·cases h
  ·cases h
def lB (o:Option Sv)(pc:PC):aB (Sv × PC):=
 match o with
 | some s => .leaf (s,pc)
 | none => .fail
theorem cR {η:Env} {o:Option Sv} {pc pc':PC} {sv:Sv} (h:(lB o pc).at_ η=some (sv,pc')):o=some sv/\pc=pc':=by
 cases o with
 | none=>cases h
 | some s=>simp only [lB,aB.at_,Option.some.injEq,Prod.mk.injEq] at h;exact ⟨by rw [h.1],h.2⟩
def opn (o:Option (Option Bool × Sv)) (alt:aB (Sv × PC)) (pc:PC):aB (Sv × PC):=
 match o with
 | some (none,s) => .leaf (s,pc)
 | some (some b,s)=>chk b (.leaf (s,pc))
 | none=>alt
theorem xR {η:Env} {o:Option (Option Bool × Sv)} {alt:aB (Sv × PC)} {pc pc':PC} {sv:Sv} (h:(opn o alt pc).at_ η=some (sv,pc')):
  (∃ ob,o=some (ob,sv)/\(∀ b,ob=some b->b=true)/\pc'=pc)∨alt.at_ η=some (sv,pc'):=by
 unfold opn at h;split at h
 ·simp only [aB.at_,Option.some.injEq,Prod.mk.injEq] at h;obtain ⟨rfl,rfl⟩:=h;exact .inl ⟨none,rfl,(fun b e=>by cases e),rfl⟩
 ·obtain ⟨hb,h⟩:=eZ h;simp only [aB.at_,Option.some.injEq,Prod.mk.injEq] at h;obtain ⟨rfl,rfl⟩:=h;exact .inl ⟨_,rfl,(fun b e=>by cases e;exact hb),rfl⟩
 ·exact .inr h
def qop (C:Cx)(hp:T Blk)(tm:T Sv)(pc:PC)(o:Op):aB (Sv × PC):=
 match o with
 | .move x | .assign x=>lB (evX tm x) pc
 | .pick c a b=>match evX tm c with
  | some (.one (.bool bx))=>dP C.D pc bx fun t pc=>lB (bif t then evX tm a else evX tm b) pc
  | _ => .fail
 | .load t x=>match evX tm x with
  | some s=>opn (DK C hp t s) (lB (M9 C hp t s) pc) pc
  | none => .fail
 | .nilCheck x=>match evX tm x with
  | some (.one (.ptr (some a))) => .leaf (.one (.ptr (some a)),pc)
  | some (.one (.fn f cs)) => .leaf (.one (.fn f cs),pc)
  | _ => .fail
 | .binOp op t x y _=>match evX tm x,evX tm y with
  | some a,some b=>acP C op t a b pc
  | _,_ => .fail
 | .unOp op _ x=>match evX tm x with
  | some s=>lB (unX op s) pc
  | none => .fail
 | .convert s d x=>match evX tm x with
  | some a=>lB (W7 C s d a pc) pc
  | none => .fail
 | .fieldAddr t x f=>match evX tm x with
  | some s=>opn ((x7 C t s f).map fun s=>(none,s)) (lB (tT C t s f) pc) pc
  | none => .fail
 | .indexAddr t x i=>match evX tm x,evX tm i with
  | some a,some b=>opn (QV C t a b) (lB (tU C t a b) pc) pc
  | _,_ => .fail
 | .field t x f=>match evX tm x with
  | some s=>lB (QK C t s f) pc
  | none => .fail
 | .index t x i=>match evX tm x,evX tm i with
  | some a,some b=>opn (x8 C t a b) (lB (QN C t a b) pc) pc
  | _,_ => .fail
 | .slice t x lo hi none=>match evX tm x,evO tm lo,evO tm hi with
  | some a,some l,some h=>opn (yA C t a l h) (lB (QQ C t a l h) pc) pc
  | _,_,_ => .fail
 | .build t ps=>match u9 tm ps.toList with
  | some l=>lB (QS C t l) pc
  | none => .fail
 | .extract x i=>match evX tm x with
  | some s=>lB (DI s i) pc
  | none => .fail
 | .makeFunc (.func f) first captured=>match first.toList,evL tm captured.toList with
  | [],some l=>match caps l with
   | some cs => .leaf (.one (.fn f cs),pc)
   | none => .fail
  | _,_ => .fail
 | .call c=>match c.callee,evL tm c.args.toList with
  | .builtin b,some l=>DJ C hp b c.argTypes.toList l pc
  | _,_ => .fail
 | .lookup t x k ok=>match evX tm x,evX tm k with
  | some a,some b=>lB (XP C hp t a b ok) pc
  | _,_ => .fail
 | _ => .fail
theorem dE {P:Program} {w:World} {s:Sem Value} {v:Value} (h:s.run P w = .ok v w):(do pure (Next.value (←s)):Sem Next).run P w = .ok (.value v) w:=by
 simp [h]
theorem SO {C:Cx} {P:Program} {η:Env} {E:Emb} (hC:C.Ok P η) {hp:T Blk} {nx lo base:Nat} {w:World} (hH:aF η E hp nx lo base w) {tm:T Sv} {a:Act} {pc pc':PC} {o:Oper} {sv:Sv}
  (g:pc.holds η) (hx : ∀ x∈o.op.operands,nI η E tm a x) (h:(qop C hp tm pc o.op).at_ η=some (sv,pc')):
  pc'.holds η /\ ∃ v,sv.den η E=some v/\(execOp a.eval o).run P w = .ok (.value v) w:=by
 obtain ⟨dst,op,type,pos,after,guard⟩:=o;simp only at hx h;unfold qop at h;split at h
 ·rename_i x;obtain ⟨h1,rfl⟩:=cR h;exact ⟨g,_,hx x (by simp [Op.operands]) _ h1,rfl⟩
 ·rename_i x;obtain ⟨h1,rfl⟩:=cR h;exact ⟨g,_,hx x (by simp [Op.operands]) _ h1,rfl⟩
 ·rename_i c x y;split at h
  ·rename_i bx hb;obtain ⟨pc1,hp1,h1⟩:=bN hC.D g h;obtain ⟨h2,rfl⟩:=cR h1
   have ec:=hx c (by simp [Op.operands]) _ hb
   simp only [Sv.den,Sc.den,Option.some.injEq] at ec;refine ⟨hp1,?_⟩
   cases hbd:bx.den η with
   | true=>
    rw [hbd] at h2 ec;exact ⟨_,hx x (by simp [Op.operands]) _ h2,by simp [execOp,←ec,asBool]⟩
   | false=>
    rw [hbd] at h2 ec;exact ⟨_,hx y (by simp [Op.operands]) _ h2,by simp [execOp,←ec,asBool]⟩
  ·cases h
 ·rename_i t x;split at h
  ·rename_i s hs
   rcases xR h with ⟨ob,h1,hb,rfl⟩ | h
   ·obtain ⟨v,h2,h3⟩:=J1 hC hH h1 hb (hx x (by simp [Op.operands]) _ hs)
    exact ⟨g,v,h2,dE h3⟩
   obtain ⟨h1,rfl⟩:=cR h;obtain ⟨v,h2,h3⟩:=HV hC hH h1 (hx x (by simp [Op.operands]) _ hs)
   exact ⟨g,v,h2,dE h3⟩
  ·cases h
 ·rename_i x;split at h
  ·rename_i c hs
   have e:=hx x (by simp [Op.operands]) _ hs
   simp only [aB.at_,Option.some.injEq,Prod.mk.injEq] at h;obtain ⟨rfl,rfl⟩:=h;obtain ⟨b,o⟩:=c;obtain ⟨B,K,_,ev⟩:=kN e;exact ⟨g,_,e,by simp [execOp,ev]⟩
  ·rename_i f cs hs
   have e:=hx x (by simp [Op.operands]) _ hs
   simp only [aB.at_,Option.some.injEq,Prod.mk.injEq] at h;obtain ⟨rfl,rfl⟩:=h;refine ⟨g,_,e,?_⟩;simp only [Sv.den,Sc.den,Option.map_eq_some_iff] at e;obtain ⟨l,_,ev⟩:=e;simp [execOp,←ev]
  ·cases h
 ·rename_i op t x y yt;split at h
  ·rename_i s1 s2 hs1 hs2;obtain ⟨h1,v,h2,h3⟩:=W6 hC g h (hx x (by simp [Op.operands]) _ hs1) (hx y (by simp [Op.operands]) _ hs2) x y
   exact ⟨h1,v,h2,dE (h3 w)⟩
  ·cases h
 ·rename_i op t x;split at h
  ·rename_i s hs;obtain ⟨h1,rfl⟩:=cR h;obtain ⟨v,h2,h3⟩:=aar (P:=P) h1 (hx x (by simp [Op.operands]) _ hs)
   exact ⟨g,v,h2,dE (h3 w)⟩
  ·cases h
 ·rename_i s d x;split at h
  ·rename_i s' hs;obtain ⟨h1,rfl⟩:=cR h;obtain ⟨v,h2,h3⟩:=U5 hC g h1 (hx x (by simp [Op.operands]) _ hs)
   exact ⟨g,v,h2,dE (h3 w)⟩
  ·cases h
 ·rename_i t x f;split at h
  ·rename_i s hs
   rcases xR h with ⟨ob,h1,hb,rfl⟩ | h
   ·simp only [Option.map_eq_some_iff,Prod.mk.injEq] at h1;obtain ⟨s',h1,rfl,rfl⟩:=h1;obtain ⟨v,h2,h3⟩:=s0 hC h1 (hx x (by simp [Op.operands]) _ hs)
    exact ⟨g,v,h2,dE (h3 w)⟩
   obtain ⟨h1,rfl⟩:=cR h;obtain ⟨v,h2,h3⟩:=p6 hC h1 (hx x (by simp [Op.operands]) _ hs)
   exact ⟨g,v,h2,dE (h3 w)⟩
  ·cases h
 ·rename_i t x i;split at h
  ·rename_i s1 s2 hs1 hs2
   rcases xR h with ⟨ob,h1,hb,rfl⟩ | h
   ·obtain ⟨v,h2,h3⟩:=QW hC h1 hb (hx x (by simp [Op.operands]) _ hs1) (hx i (by simp [Op.operands]) _ hs2)
    exact ⟨g,v,h2,dE (h3 w)⟩
   obtain ⟨h1,rfl⟩:=cR h;obtain ⟨v,h2,h3⟩:=DG hC h1 (hx x (by simp [Op.operands]) _ hs1) (hx i (by simp [Op.operands]) _ hs2)
   exact ⟨g,v,h2,dE (h3 w)⟩
  ·cases h
 ·rename_i t x f;split at h
  ·rename_i s hs;obtain ⟨h1,rfl⟩:=cR h;obtain ⟨v,h2,h3⟩:=QL hC h1 (hx x (by simp [Op.operands]) _ hs)
   exact ⟨g,v,h2,dE (h3 w)⟩
  ·cases h
 ·rename_i t x i;split at h
  ·rename_i s1 s2 hs1 hs2
   rcases xR h with ⟨ob,h1,hb,rfl⟩ | h
   ·obtain ⟨v,h2,h3⟩:=HA hC h1 hb (hx x (by simp [Op.operands]) _ hs1) (hx i (by simp [Op.operands]) _ hs2)
    exact ⟨g,v,h2,dE (h3 w)⟩
   obtain ⟨h1,rfl⟩:=cR h;obtain ⟨v,h2,h3⟩:=QO hC h1 (hx x (by simp [Op.operands]) _ hs1) (hx i (by simp [Op.operands]) _ hs2)
   exact ⟨g,v,h2,dE (h3 w)⟩
  ·cases h
 ·rename_i t x lo' hi';split at h
  ·rename_i s l h' hs hl hh
   rcases xR h with ⟨ob,h1,hb,rfl⟩ | h
   ·obtain ⟨v,h2,h3⟩:=HB hC h1 hb (hx x (by simp [Op.operands]) _ hs) (A8 (fun y hy=>hx y (by simp [Op.operands,hy])) hl) (A8 (fun y hy=>hx y (by simp [Op.operands,hy])) hh)
    exact ⟨g,v,h2,dE (h3 w)⟩
   obtain ⟨h1,rfl⟩:=cR h;obtain ⟨v,h2,h3⟩:=QR hC h1 (hx x (by simp [Op.operands]) _ hs) (A8 (fun y hy=>hx y (by simp [Op.operands,hy])) hl) (A8 (fun y hy=>hx y (by simp [Op.operands,hy])) hh)
   exact ⟨g,v,h2,dE (h3 w)⟩
  ·cases h
 ·rename_i t ps;split at h
  ·rename_i l hl;obtain ⟨h1,rfl⟩:=cR h
   have hr:=pM (fun p hp=>hx p.2 (by simp [Op.operands];exact ⟨p.1,by simpa using hp⟩)) hl
   have hr':p7 η E l (ps.map fun (i,x)=>(i,a.eval x)).toList:=by simpa using hr
   obtain ⟨v,h2,h3⟩:=QT hC h1 hr';exact ⟨g,v,h2,dE (h3 w)⟩
  ·cases h
 ·rename_i x i;split at h
  ·rename_i s hs;obtain ⟨h1,rfl⟩:=cR h;obtain ⟨v,h2,h3⟩:=vO (P:=P) h1 (hx x (by simp [Op.operands]) _ hs)
   exact ⟨g,v,h2,dE (h3 w)⟩
  ·cases h
 ·rename_i f first captured
  split at h
  ·rename_i l hf hl;split at h
   ·rename_i cs hcs;simp only [aB.at_,Option.some.injEq,Prod.mk.injEq] at h;obtain ⟨rfl,rfl⟩:=h
    have e:=kJ (fun x hm=>hx x (by simp [Op.operands];exact .inr (by simpa using hm))) hl
    have ec:=MD hcs e
    have ef:first = #[]:=by cases first;simp at hf;simp [hf]
    subst ef;exact ⟨g,.func (.func f) #[] (captured.map a.eval),by simp only [Sv.den,Sc.den,ec,Option.map_some];rw [←Array.toList_map,Array.toArray_toList],by simp [execOp,Instr.makeFunc]⟩
   ·cases h
  ·cases h
 ·rename_i c;split at h
  ·rename_i b l hb hl
   have e:=kJ (fun x hm=>hx x (Array.mem_append.2 (.inr (Array.mem_toList_iff.1 hm)))) hl
   obtain ⟨h1,v,h2,h3⟩:=J0 hC hH g h e type (c.args.map fun | .const _=>true | _=>false)
   refine ⟨h1,v,h2,?_⟩;simp only [execOp,resolve,hb,Sem.run_bind,Sem.run_pure,Result.andThen_ok,invoke]
   have ea:(List.map a.eval c.args.toList).toArray=c.args.map a.eval:=by rw [←Array.toList_map,Array.toArray_toList]
   rw [ea] at h3;exact h3
  ·cases h
 ·rename_i t x k ok;split at h
  ·rename_i sa sb ha hb;obtain ⟨h1,rfl⟩:=cR h;obtain ⟨v,h2,h3⟩:=VD hC hH h1 (hx x (by simp [Op.operands]) _ ha) (hx k (by simp [Op.operands]) _ hb)
   exact ⟨g,v,h2,dE h3⟩
  ·cases h
 ·cases h
end
end Go.Ex
namespace Go.Ex
open Go Go.RowKit
noncomputable section
def tD {α:Type}:Nat->List α->List α
 | 0,_=>[]
 | n+1,z=>z++tD n z
theorem l8 {α:Type} (z:List α) : ∀ n,(tD n z).length=n*z.length
 | 0=>by simp [tD]
 | n+1=>by simp [tD,l8 z n,Nat.succ_mul];omega
theorem ME {α:Type} (z:List α) : ∀ (n j:Nat),j<n*z.length->(tD n z)[j]? = z[j%z.length]?
 | 0,j,h=>by simp at h
 | n+1,j,h=>by
  rw [Nat.succ_mul] at h;simp only [tD]
  by_cases hj:j<z.length
  ·rw [List.getElem?_append_left hj,Nat.mod_eq_of_lt hj]
  ·rw [List.getElem?_append_right (by omega),ME z n (j-z.length) (by omega)]
   congr 1
   rw [Nat.mod_eq_sub_mod (by omega:j≥z.length)]
theorem pN {η:Env} {E:Emb} : ∀ {l m:List Sc} {vs us:List Value},aQ η E l=some vs->aQ η E m=some us->aQ η E (l++m)=some (vs++us)
 | [],m,vs,us,h,h'=>by cases h;exact h'
 | c::l,m,vs,us,h,h'=>by
  obtain ⟨v,vs',h1,h2,rfl⟩:=aR h;simp [aQ,h1,pN h2 h']
theorem CA {η:Env} {E:Emb} {z:List Sc} {vs:List Value} (h:aQ η E z=some vs) : ∀ n,aQ η E (tD n z)=some (tD n vs)
 | 0=>rfl
 | n+1=>pN h (CA h n)
theorem z6 (z:Array Value)(n:Nat):((Array.range (n*z.size)).map (z[· % z.size]!)).toList=tD n z.toList:=by
 apply List.ext_getElem?;intro j
 by_cases hj:j<n*z.size
 ·have hz:0<z.size:=by rcases Nat.eq_zero_or_pos z.size with h | h;(rw [h] at hj;simp at hj);exact h
  have hm:j%z.size<z.size:=Nat.mod_lt _ hz
  rw [ME _ _ _ (by simpa using hj)]
  simp [hj,hm]
 ·have h1:(tD n z.toList).length<=j:=by rw [l8];simp;omega
  rw [List.getElem?_eq_none h1];exact List.getElem?_eq_none (by simp;omega)
structure New where
 blk:Blk
 K:Nat
 sv:Nat->Sv
 ck:Option Bool:=none
def PU (l:List Sc):Option (List Sh × List FD):=
 match l with
 | [.slice none 0 (.known 0)]=>some ([.list []],[.list [] 0 (fun _ _ => .bool false)])
 | _=>qC l
theorem PV {η:Env} {E:Emb} {l:List Sc} {ss:List Sh} {ds:List FD} {vs:List Value} (h:PU l=some (ss,ds)) (hv:aQ η E l=some vs):
  ss.length=l.length /\ ∀ j,j<l.length->(jW ss j).ex (bD ds j)=bD ds j /\ ∃ u,vs[j]? = some u/\bK E.z (bD ds j) u:=by
 unfold PU at h;split at h
 ·cases h
  obtain ⟨v,us,h1,h2,rfl⟩:=aR hv;refine ⟨rfl,fun j hj => ?_⟩
  have:j=0:=by simp at hj;exact hj
  subst this
  have hv:v = .slice none 0 0:=by
   simp only [Sc.den] at h1
   simpa using h1.symm
  subst hv;exact ⟨rfl,_,rfl,none,0,rfl,Nat.le_refl _,by decide,.inl rfl⟩
 ·exact lN h hv
def CB (C:Cx)(tm:T Sv)(t:TypeId)(l c:Operand):Option New:=
 match C.tt.get t,evX tm l,evX tm c with
 | some ti,some sl,some sc=>bif AI sl||AI sc then (match ti.d,ixN sl,ixN sc with
  | .slice e,some n,some m=>match C.tt.get e with
   | some ei=>match PU ei.zero with
    | some (ss,ds)=>bif Nat.ble ei.bytes 100000&&Nat.blt 0 ei.size then
      some ⟨.row e ss n.toNat (fun _ j=>bD ds j),m.toNat,fun b => .one (.own b n.toNat),some (mG n m 1000000)⟩ else none
    | none=>none
   | none=>none
  | _,_,_=>none) else none
 | _,_,_=>none
def aop (C:Cx)(tm:T Sv)(o:Op):Option New:=
 match o with
 | .alloc t=>match C.tt.get t with
  | some ti=>some ⟨.cells t ti.size ti.zero,1,fun n => .one (.ptr (some (n,0))),none⟩
  | none=>none
 | .box t x=>match evX tm x with
  | some s=>match tV s with
   | some cs=>some ⟨.cells t cs.length cs,1,fun n => .one (.ptr (some (n,0))),none⟩
   | none=>none
  | none=>none
 | .buildSlice t len ps=>match C.tt.get t,u9 tm ps.toList with
  | some ti,some parts=>match ti.d with
   | .slice e=>match C.tt.get e with
    | some ei=>bif Nat.ble (len*ei.size) 1000000&&Nat.ble len 1000000 then
      match AH (fun i=>some (i*ei.size,ei.size)) (tD len ei.zero) parts with
      | some cs=>some ⟨.cells e ei.size cs,len,fun n => .one (.slice (some (n,0)) len (.rest 0)),none⟩
      | none=>none
     else none
    | none=>none
   | _=>none
  | _,_=>none
 | .makeSlice t l c=>match CB C tm t l c with
  | some r=>some r
  | none=>match C.tt.get t,evX tm l,evX tm c with
  | some ti,some sl,some sc=>match ti.d,QM sl,QM sc with
   | .slice e,some (_,n),some (_,m)=>match C.tt.get e with
    | some ei=>bif Nat.ble n m&&(Nat.ble m 1000000&&Nat.ble ei.bytes 100000) then
      some ⟨.cells e ei.size (tD m ei.zero),m,fun b => .one (.slice (some (b,0)) n (.rest 0)),none⟩
     else none
    | none=>none
   | _,_,_=>none
  | _,_,_=>none
 | .makeMap t none=>match C.tt.get t with
  | some ti=>match ti.d with
   | .map _ et=>match C.tt.get et with
    | some ei=>match qC ei.zero with
     | some (ss,_)=>some ⟨.map ss ei.agg (fun _=>none),1,fun n => .one (.map (some n)),none⟩
     | none=>none
    | none=>none
   | _=>none
  | none=>none
 | _=>none
theorem rU {α:Type} {b:Bool} {x:Option α} {r:α} (h:(bif b then x else none)=some r):x=some r:=by
 cases b with
 | true=>exact h
 | false=>cases h
theorem PW {C:Cx} {tm:T Sv} {t:TypeId} {l c:Operand} {r:New} (h:CB C tm t l c=some r):r.blk.noM:=by
 unfold CB at h;split at h
 ·have h:=rU h
  split at h
  ·split at h
   ·split at h
    ·have h:=rU h
     cases h;trivial
    ·cases h
   ·cases h
  ·cases h
 ·cases h
theorem SP {C:Cx} {tm:T Sv} {o:Op} {r:New} (h:aop C tm o=some r):r.blk.noM:=by
 unfold aop at h;split at h
 ·split at h
  ·cases h;trivial
  ·cases h
 ·split at h
  ·split at h
   ·cases h;trivial
   ·cases h
  ·cases h
 ·split at h
  ·split at h
   ·split at h
    ·have h:=rU h
     split at h
     ·cases h;trivial
     ·cases h
    ·cases h
   ·cases h
  ·cases h
 ·split at h
  ·rename_i h1;cases h;exact PW h1
  ·split at h
   ·split at h
    ·split at h
     ·have h:=rU h
      cases h;trivial
     ·cases h
    ·cases h
   ·cases h
 ·split at h
  ·split at h
   ·split at h
    ·split at h
     ·cases h;trivial
     ·cases h
    ·cases h
   ·cases h
  ·cases h
 ·cases h
theorem CC {P:Program} (w:World) (t:TypeId) (v:Value):(newVar t v).run P w = .ok ⟨w.heap.size,0,none⟩ (w.alloc (.cells v.cells t)):=by
 simp [newVar,newRow]
theorem MF (η:Env)(E:Emb)(n B K:Nat):(Sv.one (.ptr (some (n,0)))).den η (E.set n (B,K))=some (.pointer (some ⟨B,0,none⟩)):=by
 simp [Sv.den,Sc.den,bV,Emb.set_same]
theorem CD (η:Env)(E:Emb)(n B K l:Nat)(h:l<=K):(Sv.one (.slice (some (n,0)) l (.rest 0))).den η (E.set n (B,K))=some (.slice (some ⟨B,0,none⟩) l K):=by
 simp [Sv.den,Sc.den,Emb.set_same,h]
theorem G3 (zs:Array Value)(n j:Nat)(hz:0<zs.size)(hj:j<n):(madeCells zs n)[j]? = zs[j%zs.size]? := by
 have h1:j%zs.size<zs.size:=Nat.mod_lt _ hz
 simp [madeCells,hj,h1]
theorem PX {C:Cx} {P:Program} {η:Env} {E:Emb} (hC:C.Ok P η) {w:World} {tm:T Sv} {a:Act} {t:TypeId} {l c:Operand} {dst:Option Tmp} {type:TypeId} {pos:String} {after:Array Edge} {guard:Option (Nat × Bool)} {r:New}
  (hx : ∀ x∈[l,c],nI η E tm a x) (h:CB C tm t l c=some r) (hck : ∀ b,r.ck=some b->b=true):
  ∃ obj v,(execOp a.eval ⟨dst,.makeSlice t l c,type,pos,after,guard⟩).run P w = .ok (.value v) (w.alloc obj) /\ ∀ n,E n=none->r.blk.Rel η (E.set n (w.heap.size,r.K)) r.K (some obj)/\(r.sv n).den η (E.set n (w.heap.size,r.K))=some v:=by
 unfold CB at h;split at h
 ·rename_i ti sl sc hti hsl hsc
  have hu:=(hC.tt t ti hti).und
  cases hb:(AI sl||AI sc) with
  | false=>rw [hb] at h;cases h
  | true=>
   rw [hb] at h;simp only [cond_true] at h;split at h
   ·rename_i e n m hd hn hm;rw [hd] at hu;split at h
    ·rename_i ei hei;split at h
     ·rename_i ss ds hz
      cases hc:(Nat.ble ei.bytes 100000&&Nat.blt 0 ei.size) with
      | false=>rw [hc] at h;cases h
      | true=>
       rw [hc] at h;cases h;obtain ⟨c1,c2⟩:=bR hc
       have c1:=Nat.le_of_ble_eq_true c1
       have c2:0<ei.size:=Nat.le_of_ble_eq_true c2
       have hin:=hck _ rfl
       simp only [mG,Bool.and_eq_true,decide_eq_true_eq] at hin;obtain ⟨i1,i2,i3⟩:=hin;obtain ⟨i,z,h1,h2,h3,h4,h5,h6,_⟩:=(hC.tt e ei hei).inf;obtain ⟨k1,el⟩:=mF hn (hx l (by simp) _ hsl)
       obtain ⟨k2,ec⟩:=mF hm (hx c (by simp) _ hsc)
       have hlen:ei.zero.length=ei.size:=by rw [←bC (h5 η E),Array.length_toList,h6]
       refine ⟨.cells (madeCells z.cells (m.toNat*i.size)) e,.slice (some ⟨w.heap.size,0,none⟩) n.toNat m.toNat,?_,fun b hn=>⟨?_,?_⟩⟩
       ·have hb:(i.bytes:Int)*m<=281474976710656:=by
         rw [h3]
         have:ei.bytes*m.toNat<=100000*1000000:=Nat.mul_le_mul c1 (by omega)
         have h':((ei.bytes*m.toNat:Nat):Int)<=281474976710656:=by omega
         rw [Int.natCast_mul,Int.toNat_of_nonneg (by omega)] at h'
         exact h'
        have hr:=run_make (P:=P) w t e i z hu h1 h4 k1 k2 n m (by omega) (by omega) hb (by omega)
        simp [execOp,el,ec,hr]
       ·obtain ⟨g1,g2⟩:=PV hz (h5 η (E.set b (w.heap.size,m.toNat)));refine ⟨_,rfl,by rw [size_madeCells,h2,g1,hlen],(by show n.toNat<=m.toNat;omega),(by show m.toNat<=maxLen;simp only [maxLen];omega),by rw [g1,hlen];exact c2,fun i' hi j hj => ?_⟩
        rw [g1,hlen] at hj;obtain ⟨k1,u,k2,k3⟩:=g2 j (by rw [hlen];exact hj)
        refine ⟨k1,u,?_,k3⟩;rw [g1,hlen,h2,G3 _ _ _ (by rw [h6];exact c2),h6]
        ·rw [Nat.add_comm,Nat.add_mul_mod_self_right,Nat.mod_eq_of_lt hj,←Array.getElem?_toList];exact k2
        ·have hi:i'<n.toNat:=hi
         have:i'+1<=m.toNat:=by omega
         have:=Nat.mul_le_mul_right ei.size this
         rw [Nat.add_mul] at this;omega
       ·exact JZ (Emb.set_same ..) (by omega)
     ·cases h
    ·cases h
   ·cases h
 ·cases h
theorem SQ {C:Cx} {P:Program} {η:Env} {E:Emb} (hC:C.Ok P η) {w:World} {tm:T Sv} {a:Act} {o:Oper} {r:New}
  (hx : ∀ x∈o.op.operands,nI η E tm a x) (h:aop C tm o.op=some r) (hck : ∀ b,r.ck=some b->b=true):
  ∃ obj v,(execOp a.eval o).run P w = .ok (.value v) (w.alloc obj) /\ ∀ n,E n=none->r.blk.Rel η (E.set n (w.heap.size,r.K)) r.K (some obj)/\(r.sv n).den η (E.set n (w.heap.size,r.K))=some v:=by
 obtain ⟨dst,op,type,pos,after,guard⟩:=o;simp only at hx h;unfold aop at h;split at h
 ·rename_i t;split at h
  ·rename_i ti hti
   cases h
   obtain ⟨i,z,h1,h2,h3,h4,h5,h6,_⟩:=(hC.tt t ti hti).inf;refine ⟨.cells z.cells t,.pointer (some ⟨w.heap.size,0,none⟩),?_,fun n hn=>⟨?_,MF ..⟩⟩
   ·simp [execOp,Instr.alloc,zeroValue,typeInfo,h1,h4,CC]
   ·exact ⟨z.cells,z.cells.toList,[],rfl,by rw [h6];exact (Nat.one_mul _).symm,by simp [maxLen],h5 _ _,by simp⟩
  ·cases h
 ·rename_i t x;split at h
  ·rename_i s hs;split at h
   ·rename_i cs hcs
    cases h
    have e:=hx x (by simp [Op.operands]) _ hs
    have hc:=tW hcs e
    have hl:=bC hc
    refine ⟨.cells (a.eval x).cells t,.pointer (some ⟨w.heap.size,0,none⟩),?_,fun n hn=>⟨?_,MF ..⟩⟩
    ·simp [execOp,Instr.box,CC]
    ·exact ⟨(a.eval x).cells,(a.eval x).cells.toList,[],rfl,by rw [←Array.length_toList,hl];exact (Nat.one_mul _).symm,by simp [maxLen],fZ (Emb.le_set hn) hc,by simp⟩
   ·cases h
  ·cases h
 ·rename_i t len ps;split at h
  ·rename_i ti parts hti hparts
   have hu:=(hC.tt t ti hti).und
   split at h
   ·rename_i e hd;rw [hd] at hu;split at h
    ·rename_i ei hei
     cases hc:(Nat.ble (len*ei.size) 1000000&&Nat.ble len 1000000) with
     | false=>rw [hc] at h;cases h
     | true=>
      rw [hc] at h;simp only [cond_true] at h;obtain ⟨c1,c2⟩:=bR hc
      have c1:=Nat.le_of_ble_eq_true c1
      have c2:=Nat.le_of_ble_eq_true c2
      split at h
      ·rename_i cs hcs
       cases h
       have hT:=hC.tt e ei hei
       obtain ⟨i,z,h1,h2,h3,h4,h5,h6,_⟩:=hT.inf
       have hr:=pM (fun p hp=>hx p.2 (by simp [Op.operands];exact ⟨p.1,by simpa using hp⟩)) hparts
       obtain ⟨us,g1,g2⟩:=r9 parts _ _ cs _ hcs hr (CA (h5 η E) len)
       have hus:us.length=len*ei.size:=by
        rw [bC g1]
        have : ∀ (ps:List (Nat × Sv)) (c d:List Sc),AH (fun i=>some (i*ei.size,ei.size)) c ps=some d->d.length=c.length:=by
         intro ps
         induction ps with
         | nil=>intro c d h;cases h;rfl
         | cons p ps ih=>
          intro c d h;obtain ⟨i,v⟩:=p;simp only [AH] at h;split at h
          ·cases hb:(Nat.beq _ _&&Nat.ble _ _:Bool) with
           | false=>rw [hb] at h;cases h
           | true=>rw [hb] at h;rw [ih _ _ h,jN]
          ·cases h
        rw [this _ _ _ hcs,l8,←bC (h5 η E),Array.length_toList,h6]
       have hmade:((Array.range (len*ei.size)).map (z.cells[· % z.cells.size]!))=(tD len z.cells.toList).toArray:=by
        apply Array.ext';rw [←h6];rw [z6]
       refine ⟨.cells us.toArray e,.slice (some ⟨w.heap.size,0,none⟩) len len,?_,fun n hn=>⟨?_,CD _ _ _ _ _ _ (Nat.le_refl _)⟩⟩
       ·have hno : ¬ len*ei.size>2^24:=by omega
        by_cases h0:len*ei.size=0
        ·have e0:tD len z.cells.toList=[]:=List.eq_nil_of_length_eq_zero (by rw [l8,Array.length_toList,h6,h0])
         rw [e0] at g2;simp [execOp,Instr.buildSlice,run_underlying hu,hT.run_size,h0,newRow,g2,Array.range_zero']
        ·simp [execOp,Instr.buildSlice,run_underlying hu,hT.run_size,hno,h0,zeroValue,typeInfo,h1,h4,hmade,newRow,g2]
       ·exact ⟨us.toArray,us,[],rfl,by simp [hus],by simp only [maxLen];omega,fZ (Emb.le_set hn) g1,by simp⟩
      ·cases h
    ·cases h
   ·cases h
  ·cases h
 ·rename_i t l c;split at h
  ·rename_i r' hr'
   cases h
   exact PX hC (fun y hy=>hx y (by simpa [Op.operands] using hy)) hr' hck
  split at h
  ·rename_i ti sl sc hti hsl hsc
   have hu:=(hC.tt t ti hti).und
   split at h
   ·rename_i e k1 n k2 m hd hln hlm;rw [hd] at hu;split at h
    ·rename_i ei hei
     cases hc:(Nat.ble n m&&(Nat.ble m 1000000&&Nat.ble ei.bytes 100000)) with
     | false=>rw [hc] at h;cases h
     | true=>
      rw [hc] at h;cases h;obtain ⟨c1,c23⟩:=bR hc;obtain ⟨c2,c3⟩:=bR c23
      have c1:=Nat.le_of_ble_eq_true c1
      have c2:=Nat.le_of_ble_eq_true c2
      have c3:=Nat.le_of_ble_eq_true c3
      obtain ⟨i,z,h1,h2,h3,h4,h5,h6,_⟩:=(hC.tt e ei hei).inf
      have el:=iP hln (hx l (by simp [Op.operands]) _ hsl)
      have ec:=iP hlm (hx c (by simp [Op.operands]) _ hsc)
      refine ⟨.cells (madeCells z.cells (m*i.size)) e,.slice (some ⟨w.heap.size,0,none⟩) n m,?_,fun b hn=>⟨?_,CD _ _ _ _ _ _ c1⟩⟩
      ·have hb:(i.bytes:Int)*(m:Int)<=281474976710656:=by
        rw [h3]
        have:ei.bytes*m<=100000*1000000:=Nat.mul_le_mul c3 c2
        have h':((ei.bytes*m:Nat):Int)<=281474976710656:=by omega
        rwa [Int.natCast_mul] at h'
       have hr:=run_make (P:=P) w t e i z hu h1 h4 k1 k2 n m (by omega) (by omega) hb (by omega)
       simp only [Int.toNat_natCast] at hr;simp [execOp,el,ec,hr]
      ·refine ⟨_,tD m z.cells.toList,[],rfl,?_,?_,fZ (Emb.le_set hn) (CA (h5 η E) m),?_⟩
       ·simp [size_madeCells,h2]
       ·simp only [maxLen];omega
       ·rw [List.append_nil,h2,←h6];exact z6 z.cells m
    ·cases h
   ·cases h
  ·cases h
 ·split at h<;>first | (cases h;done) | skip
  split at h<;>first | (cases h;done) | skip
  split at h<;>first | (cases h;done) | skip
  split at h<;>first | (cases h;done) | skip
  cases h
  refine ⟨.map #[] 0,.map (some w.heap.size),?_,fun n hn=>⟨⟨#[],0,rfl,S5.empty _ _⟩,by simp [Sv.den,Sc.den,Emb.set_same]⟩⟩
  simp [execOp,run_makeMap]
 ·cases h
end
end Go.Ex
