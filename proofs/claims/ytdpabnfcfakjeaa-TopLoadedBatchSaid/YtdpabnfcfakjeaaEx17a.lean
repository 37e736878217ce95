/-
 The executor: regions that draw their order. A head of quiet operations and of new blocks in any order that the waits allow, then a tail in the text's order.
-/
import Derived.Test.YtdpabnfcfakjeaaEx15a
import Derived.StillTail
namespace Go.Ex
open Go Go.RowKit
open Nat (beq)
noncomputable section
def cN (o:Oper):List Nat:=(o.after.toList.filter fun e=>Region.binds .any e).map (·.on)
def fP (hp:T Blk):List (Nat × Blk)->T Blk
 | []=>hp
 | p::l=>(fP hp l).set p.1 (some p.2)
def CS (bk:T Blk)(nx:Nat):List Nat->Option (List (Nat × Blk))
 | []=>some []
 | k::l=>match bk.get k,CS bk nx l with
  | some b,some m=>some ((nx+k,b)::m)
  | _,_=>none
def WF (C:Cx) (ih:FI->List Sv->St->aB (Sv × St)) (f:FuncId) (args:List Sv) (st:St):aB (Sv × PC):=
 match C.sm.get f with
 | some g=>JB g st.hp st.nx args st.pc
 | none=>match C.hs.get f with
  | some g=>g st.hp args st.pc
  | none=>match C.ft.get f with
   | some fi=>bif fi.quiet then (ih fi args { st with lo:=st.nx }).bind fun r=>bif below st.nx r.1 then .leaf (r.1,r.2.pc) else .fail else .fail
   | none => .fail
def JH (C:Cx) (ih:FI->List Sv->St->aB (Sv × St)) (op:Op) (st:St):aB (Sv × PC):=
 match op with
 | .call c=>match c.callee with
  | .value fx=>match evX st.tm fx,evL st.tm c.args.toList with
   | some (.one (.fn f caps)),some args=>WF C ih f (args++P6 caps) st
   | _,_ => .fail
  | _=>qop C st.hp st.tm st.pc (.call c)
 | op=>qop C st.hp st.tm st.pc op
def SW (C:Cx) (ih:FI->List Sv->St->aB (Sv × St)) (ops:List Oper) (o:Oper) (st:St):aB (Sv × PC):=
 match o.guard with
 | none=>JH C ih o.op st
 | some (j,F)=>match nE ops j with
  | some d=>match st.tm.get d with
   | some (.one (.bool bx))=>dP C.D st.pc bx fun b pc=>match b==F with
    | true=>JH C ih o.op { st with pc:=pc }
    | false => .leaf (.undef,pc)
   | some .undef => .leaf (.undef,st.pc)
   | _ => .fail
  | none => .fail
def gOf (C:Cx)(tm:T Sv)(o:Oper):Option (FuncId × (List Sv->PC->aB (Sv × PC)) × List Sv):=
 match o.guard,o.op with
 | none,.call c=>match c.callee with
  | .value fx=>match evX tm fx,evL tm c.args.toList with
   | some (.one (.fn f caps)),some args=>match C.sm.get f,C.hs.get f,C.gs.get f with
    | none,none,some g=>some (f,g,args++P6 caps)
    | _,_,_=>none
   | _,_=>none
  | _=>none
 | _,_=>none
def lOf (C:Cx)(tm:T Sv)(o:Oper):Option (FuncId × FI × List Sv):=
 match o.guard,o.op with
 | none,.call c=>match c.callee with
  | .value fx=>match evX tm fx,evL tm c.args.toList with
   | some (.one (.fn f caps)),some args=>match C.sm.get f,C.hs.get f,C.gs.get f,C.ft.get f with
    | none,none,none,some fi=>match fi.quiet with
     | true=>none
     | false=>some (f,fi,args++P6 caps)
    | _,_,_,_=>none
   | _,_=>none
  | _=>none
 | _,_=>none
def P7 (C:Cx)(ops:List Oper)(tm:T Sv)(o:Oper):Option (Bx × Bool × (FuncId × (List Sv->PC->aB (Sv × PC)) × List Sv)):=
 match o.guard with
 | some (j,F)=>match nE ops j with
  | some d=>match tm.get d,gOf C tm { o with guard:=none } with
   | some (.one (.bool bx)),some x=>some (bx,F,x)
   | _,_=>none
  | none=>none
 | none=>none
def P8:Sc->Bool
 | .bool _=>true
 | .int _ _=>true
 | .str _=>true
 | .ostr _=>true
 | _=>false
def kOf (r:Option (Nat × Blk × Nat)):Nat:=
 match r with
 | some r=>r.2.2
 | none=>0
def JI (hp:T Blk)(top m:Nat)(s:Sv):Option (Blk × Sv):=
 match s with
 | .one (.slice (some (b,0)) n (.rest r))=>match hp.get b with
  | some (.cells e sz l)=>match Nat.ble top b&&l.all P8 with
   | true=>some (.cells e sz l,.one (.slice (some (m,0)) n (.rest r)))
   | false=>none
  | _=>none
 | .one (.own b n)=>match hp.get b with
  | some (.row e cs n' f)=>match Nat.ble top b&&cs.all eY with
   | true=>some (.row e cs n' f,.one (.own m n))
   | false=>none
  | _=>none
 | _=>none
def vI (o:Oper):Bool:=
 match o.op with
 | .alloc _=>true
 | .box _ _=>true
 | .buildSlice _ _ _=>true
 | .makeSlice _ _ _=>true
 | .makeMap _ _=>true
 | _=>false
def lE:List Oper->Bool
 | []=>false
 | o::l=>vI o||lE l
def vJ:List Oper->Bool
 | []=>false
 | o::l=>(match o.op with
  | .call c=>match c.callee with
   | .value _=>true
   | _=>false
  | _=>false)||vJ l
def jL (o:Oper):Bool:=
 match o.op with
 | .store _ _ _=>true
 | .call c=>match c.callee with
  | .builtin .copy=>true
  | _=>false
 | _=>false
def cOf (C:Cx)(tm:T Sv)(hp:T Blk)(lo:Nat)(o:Oper):Option (Nat × Blk × Nat):=
 match o.guard,o.op with
 | none,.call c=>match c.callee with
  | .builtin .copy=>match evL tm c.args.toList with
   | some l=>CH C hp lo c.argTypes.toList l
   | none=>none
  | _=>none
 | _,_=>none
def vK:List Oper->Bool
 | []=>false
 | o::l=>jL o||vK l
def clo (ops:List Oper):Nat->List Nat->List Nat->List Nat
 | 0,_,acc=>acc
 | _+1,[],acc=>acc
 | f+1,j::fr,acc=>bif acc.any fun k=>beq k j then clo ops f fr acc else match nth ops j with
  | some o=>clo ops f (cN o++fr) (j::acc)
  | none=>clo ops f fr acc
def iM (ops:List Oper)(o:Oper):List Nat:=bif lE ops||vK ops then clo ops 4000 (cN o) [] else []
def lF (ops:List Oper):List Nat->List Nat
 | []=>[]
 | k::l=>match nth ops k with
  | some o=>bif vI o then k::lF ops l else lF ops l
  | none=>lF ops l
structure Wr where
 k:Nat
 x:Nat
 c:Blk
def sQ (anc:List Nat)(hp:T Blk):List Wr->T Blk
 | []=>hp
 | r::l=>(sQ anc hp l).set r.x (bif anc.any fun k=>beq k r.k then some r.c else none)
def A3 (nt:Nat)(d:Option Tmp)(s:Sv)(tm:T Sv):Option (T Sv):=
 match d with
 | none=>some tm
 | some d=>bif Nat.blt d nt then some (tm.set d (some s)) else none
def stB (C:Cx)(tm:T Sv)(hp:T Blk)(lo:Nat)(t:TypeId)(x v:Operand):Option (Option Bool × Nat × Blk):=
 match xS C tm hp lo t x v with
 | some r=>some (none,r)
 | none=>match gK C tm hp lo t x v with
  | some r=>some (some r.1,r.2)
  | none=>none
def aag (C:Cx) (ih:FI->List Sv->St->aB (Sv × St)) (f:FuncId) (fi:FI) (args:List Sv) (st:St):aB (Sv × St):=
 match C.es.get f with
 | some g=>(g st.hp st.nx st.lo args st.pc).bind fun r => .leaf (r.1,{ st with hp:=r.2.1.1,nx:=r.2.1.2,pc:=r.2.2 })
 | none=>ih fi args st
def gS (C:Cx) (ih:FI->List Sv->St->aB (Sv × St)) (nt:Nat) (ops:List Oper) (st:St) (top:Nat):List Nat->T Sv->T Blk->List Wr->PC->aB (T Sv × T Blk × List Wr × PC)
 | [],tm,bk,wl,pc => .leaf (tm,bk,wl,pc)
 | i::l,tm,bk,wl,pc=>match nth ops i with
  | some o=>match o.guard,aop C tm o.op with
   | none,some ar=>match A3 nt o.dst (ar.sv (st.nx+i)) tm with
    | some tm'=>aae ar.ck (gS C ih nt ops st top l tm' (bk.set i (some ar.blk)) wl pc)
    | none => .fail
   | g,_=>match CS bk st.nx (lF ops (iM ops o)) with
    | some bl=>match g,o.op with
     | none,.store t x v=>match stB C tm (sQ (iM ops o) (fP st.hp bl) wl) st.lo t x v,A3 nt o.dst .undef tm with
      | some r,some tm'=>bif (wl.any fun q=>beq q.x r.2.1) || !Nat.blt r.2.1 65535 then .fail else aae r.1 (gS C ih nt ops st top l tm' bk (⟨i,r.2.1,r.2.2⟩::wl) pc)
      | _,_ => .fail
     | _,_=>match P7 C ops tm o with
      | some (bx,F,_,gg,args)=>dP C.D pc bx fun b pc1=>match b==F with
       | true=>(tH gg (sQ (iM ops o) (fP st.hp bl) wl) top args pc1).bind fun r=>match A3 nt o.dst (kI (st.nx+i) r.1) tm with
        | some tm'=>gS C ih nt ops st top l tm' bk wl r.2
        | none => .fail
       | false=>match A3 nt o.dst .undef tm with
        | some tm'=>gS C ih nt ops st top l tm' bk wl pc1
        | none => .fail
      | none=>match gOf C tm o with
      | some (_,gg,args)=>(tH gg (sQ (iM ops o) (fP st.hp bl) wl) top args pc).bind fun r=>match A3 nt o.dst (kI (st.nx+i) r.1) tm with
       | some tm'=>gS C ih nt ops st top l tm' bk wl r.2
       | none => .fail
      | none=>match cOf C tm (sQ (iM ops o) (fP st.hp bl) wl) st.lo o,A3 nt o.dst (.one (.int .i64 (.lit (.ofNat (kOf (cOf C tm (sQ (iM ops o) (fP st.hp bl) wl) st.lo o)))))) tm with
       | some r,some tm'=>match (wl.any fun q=>beq q.x r.1) || !Nat.blt r.1 65535 with
        | true => .fail
        | false=>gS C ih nt ops st top l tm' bk (⟨i,r.1,r.2.1⟩::wl) pc
       | _,_=>match lOf C tm o with
       | some (f,fi,args)=>(aag C ih f fi args ⟨.nil,sQ (iM ops o) (fP st.hp bl) wl,top,top,pc⟩).bind fun r=>match JI r.2.hp top (st.nx+i) r.1 with
        | some (blk,sv)=>match A3 nt o.dst sv tm with
         | some tm'=>gS C ih nt ops st top l tm' (bk.set i (some blk)) wl r.2.pc
         | none => .fail
        | none => .fail
       | none=>(SW C ih ops o ⟨tm,sQ (iM ops o) (fP st.hp bl) wl,top,st.lo,pc⟩).bind fun r=>match A3 nt o.dst r.1 tm with
        | some tm'=>gS C ih nt ops st top l tm' bk wl r.2
        | none => .fail
    | none => .fail
  | none => .fail
def oI:List Operand->List Tmp
 | []=>[]
 | .tmp t::l=>t::oI l
 | _::l=>oI l
def eX (ops:List Oper)(o:Oper):List Tmp:=
 match o.guard with
 | some (g,_)=>match nE ops g with
  | some d=>d::oI o.op.operands.toList
  | none=>oI o.op.operands.toList
 | none=>oI o.op.operands.toList
def CT (o:Oper):Bool:=
 match o.op with
 | .store _ _ _=>true
 | .mapUpdate _ _ _ _=>true
 | .assign _=>true
 | .call c=>match c.callee with
  | .builtin .append=>true
  | _=>false
 | _=>false
def BC (o:Oper):Bool:=
 match o.op with
 | .assign _=>false
 | _=>CT o
def kK (p:Oper->Bool):List Oper->Nat
 | []=>0
 | o::l=>bif p o then 0 else kK p l+1
def abI (n:Nat):Nat->List Oper->List Nat
 | _,[]=>[]
 | i,o::l=>bif Nat.blt i n&&vI o&&o.after.toList.isEmpty then i::abI n (i+1) l else abI n (i+1) l
def abJ (n:Nat):Nat->List Oper->List Nat
 | _,[]=>[]
 | i,o::l=>bif Nat.blt i n && !(vI o&&o.after.toList.isEmpty) then i::abJ n (i+1) l else abJ n (i+1) l
def abK (n:Nat)(ops:List Oper):List Nat:=abI n 0 ops++abJ n 0 ops
def m6 (l:List Nat)(i:Nat):Bool:=l.any fun k=>beq k i
def WG (ops:List Oper)(base:List Nat):List Nat->List Nat->List Nat
 | [],done=>base.filter fun i => !m6 done i
 | k::l,done=>match nth ops k with
  | some o=>bif jL o then
    let a:=clo ops 4000 (cN o) []
    let new:=(base.filter fun i=>m6 a i && !m6 done i)
    new++bif m6 new k||m6 done k then WG ops base l (new++done) else k::WG ops base l (k::(new++done))
   else WG ops base l done
  | none=>WG ops base l done
def HL (n:Nat)(ops:List Oper):List Nat:=bif vK ops&&beq n (lenL' ops) then WG ops (abK n ops) (abK n ops) [] else abK n ops
where lenL':List Oper->Nat
 | []=>0
 | _::l=>lenL' l+1
def CU (d:Nat):Nat->List Oper->Option Nat
 | _,[]=>none
 | i,o::l=>match o.dst with
  | some e=>bif beq e d then some i else CU d (i+1) l
  | none=>CU d (i+1) l
def aH (p:Nat->Bool):Nat->Bool
 | 0=>true
 | n+1=>p n&&aH p n
def tL (ops:List Oper)(j i:Nat):Bool:=
 match nth ops j with
 | some o=>(cN o).any fun k=>beq k i
 | none=>false
def JJ (p:Nat->Bool):Nat->Bool
 | 0=>false
 | n+1=>p n||JJ p n
def WH (o:Option Nat)(i:Nat):Bool:=
 match o with
 | some j=>beq j i
 | none=>false
def fJ {α:Type}:List α->Nat
 | []=>0
 | _::l=>fJ l+1
def jM (ops:List Oper)(n:Nat):List Nat->List Nat->Bool
 | [],_=>true
 | i::l,done=>Nat.blt i n && !(done.any fun k=>beq k i)&&(match nth ops i with
  | some o=>((cN o).all fun j=>done.any fun k=>beq k j)&&(!jL o||done.all fun j=>m6 (iM ops o) j)
  | none=>false)&&jM ops n l (i::done)
def sU (ops:List Oper)(n m:Nat):Bool:=
 aH (fun i=>match nth ops i with
  | some o=>(match o.dst with
   | some d=>WH (CU d 0 ops) i
   | none=>true)&&(eX ops o).all fun t=>match CU t 0 ops with
    | some k=>Nat.ble n k||tL ops i k||tL ops k i||beq k i
    | none=>true
  | none=>false) n&&
 jM ops n (HL n ops) []&&aH (fun i=>(HL n ops).any fun k=>beq k i) n&&
 (beq n m||
  (aH (fun i=>JJ (fun j=>Nat.blt i j&&tL ops j i) (n+1)) n&&aH (fun t=>Nat.ble t n||tL ops t (t-1)) m&&Nat.blt n m&&
   aH (fun t=>Nat.blt t n||(match nth ops t with
    | some o=>(cN o).all fun k=>Nat.blt k t
    | none=>false)) m))
def WI (ops:List Oper):Option Nat:=
 bif sU ops (kK CT ops) (fJ ops) then some (kK CT ops)
 else bif sU ops (kK BC ops) (fJ ops) then some (kK BC ops) else bif sU ops (fJ ops) (fJ ops) then some (fJ ops) else none
def CV (C:Cx):List Oper->Bool
 | []=>false
 | [o]=>match o.guard,o.op with
  | none,.call c=>match c.callee with
   | .value (.func f)=>match C.sm.get f,C.hs.get f,C.gs.get f,C.ft.get f with
    | none,none,none,some fi => !fi.quiet
    | none,none,some _,_=>true
    | _,_,_,_=>false
   | _=>false
  | _,_=>false
 | _::l=>CV C l
def WJ (C:Cx)(ops:List Oper):Option Nat:=
 bif CV C ops&&sU ops (fJ ops-1) (fJ ops) then some (fJ ops-1) else WI ops
def SX {α:Type}:Nat->List α->List α
 | 0,l=>l
 | _,[]=>[]
 | n+1,_::l=>SX n l
def oJ (bk:T Blk)(nx:Nat):Nat->List (Nat × Blk)
 | 0=>[]
 | n+1=>match bk.get n with
  | some b=>(nx+n,b)::oJ bk nx n
  | none=>oJ bk nx n
def MS (hp:T Blk):List Wr->T Blk
 | []=>hp
 | r::l=>(MS hp l).set r.x (some r.c)
def SY (C:Cx):lD:=fun ih nt ops st=>
 match WJ C ops with
 | some n=>bif Nat.ble (st.nx+n) 65000 then
   (gS C ih nt ops st (st.nx+n) (HL n ops) st.tm .nil [] st.pc).bind fun r=>
    xX C ih nt ops (SX n ops) ⟨r.1,MS (fP st.hp (bif lE ops||vJ ops then oJ r.2.1 st.nx n else [])) r.2.2.1,st.nx+n,st.lo,r.2.2.2⟩
  else .fail
 | none => .fail
def CW:Op->Bool
 | .move _=>true
 | .nilCheck _=>true
 | .fieldAddr _ _ _=>true
 | _=>false
def gT:Op->Bool
 | .select _ _=>false
 | .defer _=>false
 | _=>true
def oK (o:Oper):Bool:=
 match o.guard with
 | none=>true
 | some _=>false
def tM:Nat->List Oper->List Nat->List Nat
 | _,[],acc=>acc
 | i,o::l,acc=>tM (i+1) l (bif oK o&&(CW o.op&&(cN o).all (m6 acc)) then acc++[i] else acc)
def JK (d:Option Tmp)(l:List Tmp):Bool:=
 match d with
 | some d => !m6 l d
 | none=>true
def abh (x y:Option Tmp):Bool:=
 match x,y with
 | some d,some e => !beq d e
 | _,_=>true
def P9 (ops:List Oper)(x y:Oper):Bool:=JK x.dst (eX ops y)&&(JK y.dst (eX ops x)&&abh x.dst y.dst)
def HM (ops:List Oper)(i:Nat)(o:Oper)(dn:List Nat)(j:Nat):Bool:=
 m6 dn j||(beq j i||(tL ops j i||(match nth ops j with
  | some y=>P9 ops o y
  | none=>true)))
def abL (ops:List Oper)(n i:Nat)(o:Oper)(dn:List Nat):Bool:=
 Nat.blt i n&&(oK o&&(CW o.op&&(!m6 dn i&&((cN o).all (m6 dn)&&aH (HM ops i o dn) n))))
def pV (C:Cx)(nt:Nat)(ops:List Oper)(n:Nat):List Nat->List Nat->St->aB St
 | [],_,st => .leaf st
 | i::l,dn,st=>match nth ops i with
  | some o=>bif abL ops n i o dn then (qop C .nil st.tm st.pc o.op).bind fun r=>(gP nt o.dst r.1 { st with pc:=r.2 }).bind fun st=>pV C nt ops n l (i::dn) st else .fail
  | none => .fail
def jV:List Nat->Nat->Nat
 | [],_=>0
 | k::l,i=>bif beq k i then 0 else jV l i+1
def abM (R:List Nat):Option (Nat × Bool)->Option (Nat × Bool)
 | some (j,b)=>some (jV R j,b)
 | none=>none
def JL (R fl:List Nat)(o:Oper):Oper:={ o with after:=((o.after.toList.filter fun e => !m6 fl e.on).map fun e=>{ e with on:=jV R e.on }).toArray,guard:=abM R o.guard }
def HN (ops:List Oper)(R fl:List Nat):List Nat->Option (List Oper)
 | []=>some []
 | i::l=>match nth ops i,HN ops R fl l with
  | some o,some m=>some (JL R fl o::m)
  | _,_=>none
def tN (fl:List Nat):Nat->List Oper->List Nat
 | _,[]=>[]
 | i,_::l=>bif m6 fl i then tN fl (i+1) l else i::tN fl (i+1) l
def WK (n:Nat)(fl:List Nat)(o:Oper):Bool:=
 gT o.op&&((cN o).all (fun k=>Nat.blt k n)&&(match o.guard with
  | some (j,_)=>Nat.blt j n && !m6 fl j
  | none=>true))
def JM (ops:List Oper)(n:Nat)(R fl:List Nat):Bool:=
 beq (fJ R+fJ fl) n&&(aH (fun i=>m6 fl i||WH (nth R (jV R i)) i) n&&
 (aH (fun j=>match nth R j with
  | some i=>Nat.blt i n&&(!m6 fl i&&beq (jV R i) j)
  | none=>false) (fJ R)&&ops.all (WK n fl)))
def WL (C:Cx):lD:=fun ih nt ops st=>
 match tM 0 ops [] with
 | fl=>match tN fl 0 ops with
  | R=>match HN ops R fl R with
   | some l=>bif JM ops (fJ ops) R fl then (pV C nt ops (fJ ops) fl [] st).bind fun st=>SY C ih nt l st else .fail
   | none => .fail
def WM (o:Oper):Bool:=
 match o.op with
 | .mapUpdate _ _ _ _=>true
 | .call c=>match c.callee with
  | .builtin .append=>true
  | _=>false
 | _=>false
def abN (C:Cx)(ops:List Oper):Bool:=
 match WJ C ops with
 | some n=>beq n (fJ ops)&&ops.any WM
 | none=>true
def lG (C:Cx):lD:=fun ih nt ops st=>bif abN C ops then WL C ih nt ops st else SY C ih nt ops st
end
end Go.Ex
namespace Go.Ex
open Go Go.RowKit
open Nat (beq)
noncomputable section
variable {ro:Option Nat} {m:Nat}
theorem Calls.exists {P:Program} {f:FuncId} {args:Array Value} {w:World} {R:Ending->World->Prop} (h:Calls P f args w R) : ∃ e w',R e w':=by
 obtain ⟨e,w',_,hR,_⟩:=h [];exact ⟨e,w',hR⟩
def MT (P:Program)(o:Oper)(a:Act)(w:World)(v:Value):Prop:=
 (execOp a.eval o).run P w = .ok (.value v) w ∨ ∃ f args,(execOp a.eval o).run P w = .ok (.enter f args) w/\Calls P f args w fun e w'=>e = .returned v/\Below w.heap.size w w'
theorem MT.wp {P:Program} {o:Oper} {a:Act} {w:World} {v:Value} (h:MT P o a w v) : ∃ S:World->Prop,(∃ w',S w')/\(∀ w',S w'->Below w.heap.size w w')/\
  ∀ (Q:Exit->Act->World->Prop) (K:Act->World->Prop),(∀ w',S w'->K (a.put o.dst v) w')->o.wpIn (FW ro) m P a w K Q:=by
 rcases h with h | ⟨f,args,h,hc⟩
 ·refine ⟨fun w'=>w'=w,⟨w,rfl⟩,fun w' e=>by subst e;exact Below.refl _ _,fun Q K hK => ?_⟩
  exact fB h (hK w rfl)
 ·refine ⟨fun w'=>Below w.heap.size w w',?_,fun _ h=>h,fun Q K hK => ?_⟩
  ·obtain ⟨e,w',_,hb⟩:=Calls.exists hc;exact ⟨w',hb⟩
  ·refine pU h (hc.mono ?_);rintro e w' ⟨rfl,hb⟩;exact ⟨v,rfl,hK w' hb⟩
theorem UT {C:Cx} {P:Program} {η:Env} (hC:C.Ok P η) {ih:FI->List Sv->St->aB (Sv × St)} (hih:eO P η ih) {f:FuncId} {args:List Sv} {st:St} {sv:Sv} {pc:PC} (hpc:st.pc.holds η)
  (h:(WF C ih f args st).at_ η=some (sv,pc)) {E:Emb} {lo base:Nat} {w:World} {vs:List Value} (hH:aF η E st.hp st.nx lo base w) (hv:aD η E args=some vs):
  pc.holds η /\ ∃ v,sv.den η E=some v/\((callFunc f vs.toArray).run P w = .ok (.value v) w ∨ ∃ f' args',(callFunc f vs.toArray).run P w = .ok (.enter f' args') w/\Calls P f' args' w fun e w'=>e = .returned v/\Below w.heap.size w w'):=by
 unfold WF at h;split at h
 ·rename_i g hg;obtain ⟨hp1,hg1⟩:=CN hC hg (top:=st.nx) h hpc;obtain ⟨v,e1,e2⟩:=hg1 E _ _ w vs hH (hH.rfree _ (Nat.le_refl _)) hv;refine ⟨hp1,v,e1,?_⟩
  rcases e2 with e2 | ⟨e2,e3⟩
  ·exact .inl e2
  ·exact .inr ⟨f,_,e2,e3⟩
 ·split at h
  ·rename_i g hg;obtain ⟨hp1,hg1⟩:=hC.hs f g hg st.hp args st.pc sv pc h hpc;obtain ⟨v,e1,e2⟩:=hg1 E vs _ _ _ w hH hv;refine ⟨hp1,v,e1,?_⟩
   rcases e2 with e2 | ⟨e2,e3⟩
   ·exact .inl e2
   ·exact .inr ⟨f,_,e2,e3⟩
  split at h
  ·rename_i fi hfi
   have hF:=hC.ft f fi hfi
   cases hq:fi.quiet with
   | false=>rw [hq] at h;cases h
   | true=>
    rw [hq] at h;obtain ⟨r1,h1,h2⟩:=aB.at_bind h
    cases hb:below st.nx r1.1 with
    | false=>rw [hb] at h2;cases h2
    | true=>
     rw [hb] at h2;cases h2
     have g3:=hih fi args { st with lo:=st.nx } r1 h1 f hF hpc (Nat.le_refl _)
     have g4:=g3 E.z00 w.heap.size w w vs hH.z00 (Below.refl _ _) (cJ E.le_z00 hv)
     obtain ⟨_,w1,v,E1,_,e1,e2,_,_,e5,_⟩:=Calls.exists g4;rw [Sv.den_agree e2 hb] at e1;refine ⟨e5,v,Sv.den_mono E.z00_le e1,.inr ⟨f,_,bU hF _ w,g4.mono ?_⟩⟩;rintro e w' ⟨v',E',rfl,e1',e2',_,e4',_,_⟩;rw [Sv.den_agree e2' hb,e1] at e1'
     cases e1'
     exact ⟨rfl,e4'⟩
  ·cases h
theorem iB (ops:List Oper)(o:Oper) : ∀ t∈oI o.op.operands.toList,t∈eX ops o:=by
 intro t ht;unfold eX;split
 ·split
  ·exact List.mem_cons_of_mem _ ht
  ·exact ht
 ·exact ht
theorem tO : ∀ {l:List Operand} {t:Tmp},Operand.tmp t∈l->t∈oI l
 | x::l,t,h=>by
  cases h with
  | head=>exact List.mem_cons_self ..
  | tail _ h=>
   have:=tO h
   cases x<;>simp only [oI]<;>first | exact List.mem_cons_of_mem _ this | exact this
theorem oL {η:Env} {E:Emb} {tm:T Sv} {a:Act} {ops:Array Operand} (h : ∀ t∈oI ops.toList,∀ s,tm.get t=some s -> ∃ v,a.tmps[t]? = some v/\s.den η E=some v) : ∀ x∈ops,nI η E tm a x:=by
 intro x hx sv hsv
 cases x with
 | tmp t=>
  obtain ⟨v,h1,h2⟩:=h t (tO (by simpa using hx)) sv hsv
  simp only [Act.eval,Array.getD_eq_getD_getElem?,h1,Option.getD_some];exact h2
 | const v=>exact M5 hsv
 | func f=>cases hsv;rfl
 | global g=>cases hsv
theorem CX {C:Cx} {P:Program} {η:Env} (hC:C.Ok P η) {ih:FI->List Sv->St->aB (Sv × St)} (hih:eO P η ih) {o:Oper} {st:St} {sv:Sv} {pc:PC} (hpc:st.pc.holds η)
  (h:(JH C ih o.op st).at_ η=some (sv,pc)) {E:Emb} {lo base:Nat} {a:Act} {w:World} (hH:aF η E st.hp st.nx lo base w) (hf : ∀ x∈o.op.operands,nI η E st.tm a x):
  pc.holds η /\ ∃ v,sv.den η E=some v/\MT P o a w v:=by
 have plain:(qop C st.hp st.tm st.pc o.op).at_ η=some (sv,pc)->pc.holds η /\ ∃ v,sv.den η E=some v/\MT P o a w v:=fun h=>by
  obtain ⟨g1,v,g2,g3⟩:=SO hC hH hpc hf h;exact ⟨g1,v,g2,.inl g3⟩
 unfold JH at h;split at h
 ·rename_i c ho;split at h
  ·rename_i fx hcal;split at h
   ·rename_i f caps args hfx hargs
    have ef:=hf fx (by rw [ho];simp [Op.operands,Call.operands,hcal]) _ hfx
    simp only [Sv.den,Sc.den,Option.map_eq_some_iff] at ef;obtain ⟨l,hl,ef⟩:=ef
    have ea:=kJ (fun x hx=>hf x (by rw [ho];simp only [Op.operands,Call.operands,hcal];simp at hx ⊢;exact .inr hx)) hargs
    have eall:=eP ea (pS (η:=η) hl)
    have hexec:(execOp a.eval o).run P w=(callFunc f (List.map a.eval c.args.toList++l).toArray).run P w:=by
     have e1:c.args.map a.eval=(List.map a.eval c.args.toList).toArray:=by rw [←Array.toList_map,Array.toArray_toList]
     simp only [execOp,ho,resolve,hcal,←ef,Deferred.ofValue,Sem.run_bind,Sem.run_pure,Result.andThen_ok,invoke,e1];simp
    obtain ⟨g1,v,g2,g3⟩:=UT hC hih hpc h hH eall;refine ⟨g1,v,g2,?_⟩;unfold MT;rw [hexec];exact g3
   ·cases h
  ·exact plain (by rw [ho];exact h)
 ·exact plain h
theorem UU {C:Cx} {P:Program} {η:Env} (hC:C.Ok P η) {ih:FI->List Sv->St->aB (Sv × St)} (hih:eO P η ih) {ops:Array Oper} {o:Oper} {st:St} {sv:Sv} {pc:PC} (hpc:st.pc.holds η)
  (h:(SW C ih ops.toList o st).at_ η=some (sv,pc)) {E:Emb} {lo base:Nat} {a:Act} {w:World} (hH:aF η E st.hp st.nx lo base w) (hs : ∀ t∈eX ops.toList o,∀ s,st.tm.get t=some s -> ∃ v,a.tmps[t]? = some v/\s.den η E=some v) {i:Nat} (hi:ops[i]? = some o):
  pc.holds η /\ ∃ v,sv.den η E=some v /\ ∃ S:World->Prop,(∃ w',S w')/\(∀ w',S w'->Below w.heap.size w w')/\
   ∀ (Q:Exit->Act->World->Prop) (K:Act->World->Prop),(∀ w',S w'->K (a.put o.dst v) w')->wpOpIn (FW ro) m P ops Q i K a w:=by
 have hf:=oL (fun t ht=>hs t (iB _ _ t ht))
 unfold SW at h;split at h
 ·rename_i hg;obtain ⟨g1,v,g2,g3⟩:=CX hC hih hpc h hH hf;obtain ⟨S,s1,s2,s3⟩:=g3.wp (ro:=ro) (m:=m);refine ⟨g1,v,g2,S,s1,s2,fun Q K hK => ?_⟩
  unfold wpOpIn;simp only [hi,Region.wanted,hg,if_true];exact s3 Q K hK
 ·rename_i j F hg;split at h
  ·rename_i d hd;split at h
   ·rename_i bx hb;obtain ⟨pc1,hp1,h1⟩:=bN hC.D hpc h;obtain ⟨v,hv1,hv2⟩:=hs d (by unfold eX;rw [hg];simp only [hd];exact List.mem_cons_self ..) _ hb
    simp only [Sv.den,Sc.den,Option.some.injEq] at hv2;subst hv2
    have hy:yielded ops a.tmps j=some (bx.den η):=by
     unfold nE at hd;rw [cD,Array.getElem?_toList] at hd;unfold yielded
     cases hoj:ops[j]? with
     | none=>rw [hoj] at hd;cases hd
     | some oj=>
      rw [hoj] at hd;simp only at hd;simp [hd,hv1]
    have hwant:Region.wanted o (yielded ops a.tmps)=(bx.den η==F):=by
     simp only [Region.wanted,hg,hy];rfl
    split at h1
    ·rename_i he;obtain ⟨g1,v,g2,g3⟩:=CX hC hih (st:={ st with pc:=pc1 }) hp1 h1 hH hf
     obtain ⟨S,s1,s2,s3⟩:=g3.wp (ro:=ro) (m:=m);refine ⟨g1,v,g2,S,s1,s2,fun Q K hK => ?_⟩
     unfold wpOpIn;simp only [hi,hwant,he,if_true];exact s3 Q K hK
    ·rename_i he
     cases h1
     refine ⟨hp1,undef,rfl,fun w'=>w'=w,⟨w,rfl⟩,fun w' e=>by subst e;exact Below.refl _ _,fun Q K hK => ?_⟩
     unfold wpOpIn;simp only [hi,hwant,he,Bool.false_eq_true,if_false];exact ⟨fun _ _=>trivial,hK w rfl⟩
   ·rename_i hb
    cases h
    obtain ⟨v,hv1,hv2⟩:=hs d (by unfold eX;rw [hg];simp only [hd];exact List.mem_cons_self ..) _ hb
    simp only [Sv.den,Option.some.injEq] at hv2;subst hv2
    have hwant:Region.wanted o (yielded ops a.tmps)=false:=vH hg hd hv1
    refine ⟨hpc,undef,rfl,fun w'=>w'=w,⟨w,rfl⟩,fun w' e=>by subst e;exact Below.refl _ _,fun Q K hK => ?_⟩
    unfold wpOpIn;simp only [hi,hwant,Bool.false_eq_true,if_false];exact ⟨fun _ _=>trivial,hK w rfl⟩
   ·cases h
  ·cases h
theorem SZ {C:Cx} {P:Program} {η:Env} {o:Oper} {tm:T Sv} {f:FuncId} {g:List Sv->PC->aB (Sv × PC)} {args:List Sv} (h:gOf C tm o=some (f,g,args)) {E:Emb} {a:Act} (hf : ∀ x∈o.op.operands,nI η E tm a x):
  o.guard=none/\C.gs.get f=some g /\ ∃ vs,aD η E args=some vs /\ ∀ w,(execOp a.eval o).run P w=(callFunc f vs.toArray).run P w:=by
 unfold gOf at h;split at h
 ·rename_i c hg ho;split at h
  ·rename_i fx hcal;split at h
   ·rename_i f' caps args' hfx hargs;split at h
    ·rename_i hgs
     cases h
     have ef:=hf fx (by rw [ho];simp [Op.operands,Call.operands,hcal]) _ hfx
     simp only [Sv.den,Sc.den,Option.map_eq_some_iff] at ef;obtain ⟨l,hl,ef⟩:=ef
     have ea:=kJ (fun x hx=>hf x (by rw [ho];simp only [Op.operands,Call.operands,hcal];simp at hx ⊢;exact .inr hx)) hargs
     have eall:=eP ea (pS (η:=η) hl)
     refine ⟨hg,hgs,_,eall,fun w => ?_⟩
     have e1:c.args.map a.eval=(List.map a.eval c.args.toList).toArray:=by rw [←Array.toList_map,Array.toArray_toList]
     simp only [execOp,ho,resolve,hcal,←ef,Deferred.ofValue,Sem.run_bind,Sem.run_pure,Result.andThen_ok,invoke,e1];simp
    ·cases h
   ·cases h
  ·cases h
 ·cases h
theorem aah {C:Cx} {P:Program} {η:Env} {o:Oper} {tm:T Sv} {f:FuncId} {fi:FI} {args:List Sv} (h:lOf C tm o=some (f,fi,args)) {E:Emb} {a:Act} (hf : ∀ x∈o.op.operands,nI η E tm a x):
  o.guard=none/\C.ft.get f=some fi /\ ∃ vs,aD η E args=some vs /\ ∀ w,(execOp a.eval o).run P w=(callFunc f vs.toArray).run P w:=by
 unfold lOf at h;split at h<;>first | (cases h;done) | skip
 rename_i c hg ho;split at h<;>first | (cases h;done) | skip
 rename_i fx hcal;split at h<;>first | (cases h;done) | skip
 rename_i f' caps args' hfx hargs;split at h<;>first | (cases h;done) | skip
 rename_i fi' _ _ _ hfi;split at h<;>first | (cases h;done) | skip
 cases h
 have ef:=hf fx (by rw [ho];simp [Op.operands,Call.operands,hcal]) _ hfx
 simp only [Sv.den,Sc.den,Option.map_eq_some_iff] at ef;obtain ⟨l,hl,ef⟩:=ef
 have ea:=kJ (fun x hx=>hf x (by rw [ho];simp only [Op.operands,Call.operands,hcal];simp at hx ⊢;exact .inr hx)) hargs
 have eall:=eP ea (pS (η:=η) hl)
 refine ⟨hg,hfi,_,eall,fun w => ?_⟩
 have e1:c.args.map a.eval=(List.map a.eval c.args.toList).toArray:=by rw [←Array.toList_map,Array.toArray_toList]
 simp only [execOp,ho,resolve,hcal,←ef,Deferred.ofValue,Sem.run_bind,Sem.run_pure,Result.andThen_ok,invoke,e1];simp
theorem MU {C:Cx} {ops:List Oper} {tm:T Sv} {o:Oper} {bx:Bx} {F:Bool} {x:FuncId × (List Sv->PC->aB (Sv × PC)) × List Sv} (h:P7 C ops tm o=some (bx,F,x)) : ∃ j d,o.guard=some (j,F)/\nE ops j=some d/\tm.get d=some (.one (.bool bx))/\gOf C tm { o with guard:=none }=some x:=by
 unfold P7 at h;split at h<;>first | (cases h;done) | skip
 rename_i j want' hg;split at h<;>first | (cases h;done) | skip
 rename_i d hd;split at h<;>first | (cases h;done) | skip
 rename_i bx' x' hb hx
 cases h
 exact ⟨j,d,hg,hd,hb,hx⟩
theorem UV {C:Cx} {tm:T Sv} {hp:T Blk} {lo:Nat} {o:Oper} {r:Nat × Blk × Nat} (h:cOf C tm hp lo o=some r):jL o=true:=by
 unfold cOf at h;split at h<;>first | (cases h;done) | skip
 rename_i c hg ho;split at h<;>first | (cases h;done) | skip
 rename_i hcal;simp [jL,ho,hcal]
theorem aai {C:Cx} {P:Program} {η:Env} {E:Emb} (hC:C.Ok P η) {hp hpi:T Blk} {nx lo base:Nat} {w w0:World} (hH:aF η E hp nx lo base w) (hB:Below base w0 w) (hs : ∀ i b,hpi.get i=some b->hp.get i=some b) {o:Oper} {tm:T Sv} {r:Nat × Blk × Nat} (h:cOf C tm hpi lo o=some r) {a:Act} (hf : ∀ x∈o.op.operands,nI η E tm a x):
  o.guard=none/\jL o=true/\(∃ b,hpi.get r.1=some b) /\ ∃ w',(execOp a.eval o).run P w = .ok (.value (goInt r.2.2)) w'/\aF η E (hp.set r.1 (some r.2.1)) nx lo base w'/\Below base w0 w':=by
 unfold cOf at h;split at h<;>first | (cases h;done) | skip
 rename_i c hg ho;split at h<;>first | (cases h;done) | skip
 rename_i hcal;split at h<;>first | (cases h;done) | skip
 rename_i l hl
 have ea:=kJ (fun x hx=>hf x (by rw [ho];simp only [Op.operands,Call.operands,hcal];simpa using hx)) hl
 obtain ⟨h1,h2⟩:=UR hs h;obtain ⟨w',r1,r2,r3⟩:=HE (hp':=hp.set r.1 (some r.2.1)) (k:=r.2.2) hC hH hB (show MH C hp lo c.argTypes.toList l=_ by simp only [MH,h1]) ea o.type
 refine ⟨hg,by simp [jL,ho,hcal],h2,w',?_,r2,r3⟩
 have e1:c.args.map a.eval=(List.map a.eval c.args.toList).toArray:=by rw [←Array.toList_map,Array.toArray_toList]
 simp only [execOp,ho,resolve,hcal,Sem.run_bind,Sem.run_pure,Result.andThen_ok,invoke,e1,builtin];simp only [Array.toArray_toList] at r1;rw [r1];rfl
theorem aF.adopt {η:Env} {E:Emb} {hp:T Blk} {nx lo base:Nat} {w w':World} (h:aF η E hp nx lo base w) (hb:Below w.heap.size w w') {n B K:Nat} {b:Blk} (hn:E n=none) (hnx:n<nx) (hB:w.heap.size<=B) (hB':B<w'.heap.size)
  (hr:b.Rel η (E.set n (B,K)) K w'.heap[B]?) (hbm:b.noM:=by trivial):aF η (E.set n (B,K)) (hp.set n (some b)) nx lo base w':=by
 have hle:E.le (E.set n (B,K)):=Emb.le_set hn
 have h':=h.below hb
 have hget : ∀ i c,(hp.set n (some b)).get i=some c->(i=n/\c=b)∨(i≠n/\hp.get i=some c):=by
  intro i c hi
  by_cases hin:i=n
  ·subst hin;rw [T.get_set_same _ _ _ (by have:=h.lim;omega)] at hi
   cases hi;exact .inl ⟨rfl,rfl⟩
  ·rw [T.get_set_ne _ _ _ _ (Ne.symm hin)] at hi;exact .inr ⟨hin,hi⟩
 refine ⟨?_,?_,?_,?_,?_,h'.bot,?_,h.lim,h'.zw,?_,h.rfree,?_,h.rn,h'.mt.keep (fun _ _=>rfl) (Nat.le_refl _) h'.mt.hi (Nat.le_refl _) (fun b' q' e' s' n' x' m' f' hg=>by
  rcases hget b' _ hg with ⟨_,hb'⟩ | ⟨hne,hg⟩
  ·subst hb';exact hbm.elim
  ·exact ⟨hg,Emb.set_ne _ _ hne⟩) (fun _ _ _ h=>h) (fun _ _=>rfl) (fun _ _=>rfl) h'.mt.z (fun C hC j c K' hj hE=>by
  rcases hget j c hj with ⟨ej,_⟩ | ⟨hne,hj'⟩
  ·subst ej;rw [Emb.set_same] at hE
   have:=MIn.lt h.mt hC
   cases hE;omega
  ·rw [Emb.set_ne _ _ hne] at hE;exact h'.mt.own C hC j c K' hj' hE)⟩
 ·intro i c hi
  rcases hget i c hi with ⟨rfl,_⟩ | ⟨_,hi⟩
  ·exact hnx
  ·exact h.dom i c hi
 ·intro i c hi
  rcases hget i c hi with ⟨rfl,rfl⟩ | ⟨hne,hi⟩
  ·exact ⟨B,K,Emb.set_same ..,hr⟩
  ·obtain ⟨C,L,hE,hr'⟩:=h'.cell i c hi;exact ⟨C,L,by rw [Emb.set_ne _ _ hne];exact hE,hr'.mono hle⟩
 ·intro i j c d C D L M hne hi hj hE hE'
  rcases hget i c hi with ⟨rfl,_⟩ | ⟨hni,hi⟩<;>rcases hget j d hj with ⟨rfl,_⟩ | ⟨hnj,hj⟩
  ·exact absurd rfl hne
  ·rw [Emb.set_same] at hE;rw [Emb.set_ne _ _ hnj] at hE'
   have:=h.top j D M hE'
   cases hE;omega
  ·rw [Emb.set_same] at hE';rw [Emb.set_ne _ _ hni] at hE
   have:=h.top i C L hE
   cases hE';omega
  ·rw [Emb.set_ne _ _ hni] at hE;rw [Emb.set_ne _ _ hnj] at hE';exact h.inj i j c d C D L M hne hi hj hE hE'
 ·intro i C L hl hE
  by_cases hin:i=n
  ·subst hin;rw [Emb.set_same] at hE;cases hE;exact Nat.le_trans h.bot hB
  ·rw [Emb.set_ne _ _ hin] at hE;exact h.hi i C L hl hE
 ·intro i C L hE
  by_cases hin:i=n
  ·subst hin;rw [Emb.set_same] at hE;cases hE;exact hB'
  ·rw [Emb.set_ne _ _ hin] at hE;exact h'.top i C L hE
 ·intro i hi;rw [Emb.set_ne _ _ (by omega)];exact h.free i hi
 ·intro i c C L hi ho hE o
  cases hz:(E.set n (B,K)).z C o with
  | none=>rfl
  | some v=>
   exfalso
   have hz:E.z C o=some v:=hz
   rcases hget i c hi with ⟨rfl,_⟩ | ⟨hni,hi⟩
   ·rw [Emb.set_same] at hE
    have:=h.zlt hz
    cases hE;omega
   ·rw [Emb.set_ne _ _ hni] at hE;rw [h.zd i c C L hi ho hE o] at hz
    cases hz
 ·intro D o hD;obtain ⟨d1,d2,d3,d4⟩:=h'.dk D o hD;refine ⟨d1,d2,d3,fun i L hE => ?_⟩
  by_cases hin:i=n
  ·subst hin;rw [Emb.set_same] at hE
   have:=(Array.getElem?_eq_some_iff.1 (h.dk D o hD).2.1).1
   cases hE;omega
  ·rw [Emb.set_ne _ _ hin] at hE;exact d4 i L hE
theorem QA {η:Env} {E E':Emb} {c:Sc} (h:P8 c=true):c.den η E=c.den η E':=by
 cases c<;>first | rfl | cases h
theorem z8 {η:Env} {E E':Emb} : ∀ {l:List Sc},l.all P8=true->aQ η E l=aQ η E' l
 | [],_=>rfl
 | c::l,h=>by
  simp only [List.all_cons,Bool.and_eq_true] at h;simp only [aQ,QA (E:=E) (E':=E') h.1,z8 (E:=E) (E':=E') h.2]
theorem tP : ∀ {cs:List Sh} {j:Nat},cs.all eY=true->j<cs.length->eY (jW cs j)=true
 | [],j,_,hj=>by simp at hj
 | s::l,0,h,_=>by
  simp only [List.all_cons,Bool.and_eq_true] at h;exact h.1
 | s::l,j+1,h,hj=>by
  simp only [List.all_cons,Bool.and_eq_true] at h
  show eY (jW l j)=true
  exact tP h.2 (by simpa using hj)
theorem JN {η:Env} {E E':Emb} {hp hp':T Blk} {nx nx' lo base:Nat} {w w':World} (h:aF η E hp nx lo base w) (hb:Below w.heap.size w w') {s s':Sv} {blk:Blk} {m:Nat} {v:Value} (ho:JI hp' nx m s=some (blk,s')) (h':aF η E' hp' nx' nx w.heap.size w')
  (hm:E m=none) (hmn:m<nx) (hv:s.den η E'=some v) : ∃ B K,aF η (E.set m (B,K)) (hp.set m (some blk)) nx lo base w'/\s'.den η (E.set m (B,K))=some v:=by
 unfold JI at ho;split at ho
 ·rename_i b n r;split at ho
  ·rename_i e sz l hbk;split at ho
   ·rename_i hc
    cases ho
    simp only [Bool.and_eq_true] at hc
    have hlo:=Nat.le_of_ble_eq_true hc.1
    obtain ⟨B,K,hE,c,vs,rest,q1,q2,q3,q4,q5⟩:=h'.cell b _ hbk;refine ⟨B,K,h.adopt hb hm hmn (h'.hi b B K hlo hE) (h'.top b B K hE) ⟨c,vs,rest,q1,q2,q3,by rw [z8 (E':=E') hc.2];exact q4,q5⟩,?_⟩
    simp only [Sv.den,Sc.den,hE] at hv;simp only [Sv.den,Sc.den,Emb.set_same];exact hv
   ·cases ho
  ·cases ho
 ·rename_i b n;split at ho
  ·rename_i e cs n' f hbk;split at ho
   ·rename_i hc
    cases ho
    simp only [Bool.and_eq_true] at hc
    have hlo:=Nat.le_of_ble_eq_true hc.1
    obtain ⟨B,K,hE,c,q1,q2,q3,q4,q5,q6⟩:=h'.cell b _ hbk;refine ⟨B,K,h.adopt hb hm hmn (h'.hi b B K hlo hE) (h'.top b B K hE) ⟨c,q1,q2,q3,q4,q5,fun i hi j hj => ?_⟩,?_⟩
    ·obtain ⟨k1,u,k2,k3⟩:=q6 i hi j hj;exact ⟨k1,u,k2,k3.plain (tP hc.2 hj) k1⟩
    ·simp only [Sv.den,Sc.den,hE] at hv;simp only [Sv.den,Sc.den,Emb.set_same];exact hv
   ·cases ho
  ·cases ho
 ·cases ho
end
end Go.Ex
