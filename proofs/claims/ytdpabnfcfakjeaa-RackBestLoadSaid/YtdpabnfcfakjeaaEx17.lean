/-
 The executor: regions that draw their order. A head of quiet operations and of new blocks in any order that the waits allow, then a tail in the text's order.
-/
import Derived.Test.YtdpabnfcfakjeaaEx15a
import Derived.StillTail

namespace Go.Ex
open Go Go.RowKit
noncomputable section

def cZ (o : Oper) : List Nat := (o.after.toList.filter fun e => Region.binds .any e).map (·.on)

def f7 (hp : T Blk) : List (Nat × Blk) → T Blk
 | [] => hp
 | p :: l => (f7 hp l).set p.1 (some p.2)

/-- The blocks that these operations of the head have made. -/
def xT (bk : T Blk) (nx : Nat) : List Nat → Option (List (Nat × Blk))
 | [] => some []
 | k :: l => match bk.get k, xT bk nx l with
  | some b, some m => some ((nx + k, b) :: m)
  | _, _ => none

def PM (C : Cx) (ih : FI → List Sv → St → aA (Sv × St)) (f : FuncId) (args : List Sv) (st : St) : aA (Sv × PC) :=
 match C.sm.get f with
 | some g => DQ g st.hp st.nx args st.pc
 | none => match C.hs.get f with
  | some g => g st.hp args st.pc
  | none => match C.ft.get f with
   | some fi => bif fi.quiet then (ih fi args { st with lo := st.nx }).bind fun r => bif below st.nx r.1 then .leaf (r.1, r.2.pc) else .fail else .fail
   | none => .fail

def DV (C : Cx) (ih : FI → List Sv → St → aA (Sv × St)) (op : Op) (st : St) : aA (Sv × PC) :=
 match op with
 | .call c => match c.callee with
  | .value fx => match evX st.tm fx, evL st.tm c.args.toList with
   | some (.one (.fn f caps)), some args => PM C ih f (args ++ J2 caps) st
   | _, _ => .fail
  | _ => qop C st.hp st.tm st.pc (.call c)
 | op => qop C st.hp st.tm st.pc op

def MM (C : Cx) (ih : FI → List Sv → St → aA (Sv × St)) (ops : List Oper) (o : Oper) (st : St) : aA (Sv × PC) :=
 match o.guard with
 | none => DV C ih o.op st
 | some (j, want) => match lH ops j with
  | some d => match st.tm.get d with
   | some (.one (.bool bx)) => dE C.D st.pc bx fun b pc => match b == want with
    | true => DV C ih o.op { st with pc := pc }
    | false => .leaf (.undef, pc)
   | some .undef => .leaf (.undef, st.pc)
   | _ => .fail
  | none => .fail

/-! ## What the text of a region says -/
/-- A call that hands back memory of its own. -/
def gOf (C : Cx) (tm : T Sv) (o : Oper) : Option (FuncId × (List Sv → PC → aA (Sv × PC)) × List Sv) :=
 match o.guard, o.op with
 | none, .call c => match c.callee with
  | .value fx => match evX tm fx, evL tm c.args.toList with
   | some (.one (.fn f caps)), some args => match C.sm.get f, C.hs.get f, C.gs.get f with
    | none, none, some g => some (f, g, args ++ J2 caps)
    | _, _, _ => none
   | _, _ => none
  | _ => none
 | _, _ => none
/-- A call of a function of which nothing is known. -/
def lOf (C : Cx) (tm : T Sv) (o : Oper) : Option (FuncId × FI × List Sv) :=
 match o.guard, o.op with
 | none, .call c => match c.callee with
  | .value fx => match evX tm fx, evL tm c.args.toList with
   | some (.one (.fn f caps)), some args => match C.sm.get f, C.hs.get f, C.gs.get f, C.ft.get f with
    | none, none, none, some fi => match fi.quiet with
     | true => none
     | false => some (f, fi, args ++ J2 caps)
    | _, _, _, _ => none
   | _, _ => none
  | _ => none
 | _, _ => none
/-- A bF call that hands back memory of its own. -/
def J4 (C : Cx) (ops : List Oper) (tm : T Sv) (o : Oper) : Option (Bx × Bool × (FuncId × (List Sv → PC → aA (Sv × PC)) × List Sv)) :=
 match o.guard with
 | some (j, want) => match lH ops j with
  | some d => match tm.get d, gOf C tm { o with guard := none } with
   | some (.one (.bool bx)), some x => some (bx, want, x)
   | _, _ => none
  | none => none
 | none => none
def J5 : Sc → Bool
 | .bool _ => true
 | .int _ _ => true
 | .str _ => true
 | .ostr _ => true
 | _ => false
def kOf (r : Option (Nat × Blk × Nat)) : Nat :=
 match r with
 | some r => r.2.2
 | none => 0
/-- A row of plain data that was made above 'top', by a new number. -/
def DW (hp : T Blk) (top m : Nat) (s : Sv) : Option (Blk × Sv) :=
 match s with
 | .one (.slice (some (b, 0)) n (.rest r)) => match hp.get b with
  | some (.cells e sz l) => match Nat.ble top b && l.all J5 with
   | true => some (.cells e sz l, .one (.slice (some (m, 0)) n (.rest r)))
   | false => none
  | _ => none
 | .one (.own b n) => match hp.get b with
  | some (.row e cs n' f) => match Nat.ble top b && cs.all fM with
   | true => some (.row e cs n' f, .one (.own m n))
   | false => none
  | _ => none
 | _ => none
def rX (o : Oper) : Bool :=
 match o.op with
 | .alloc _ => true
 | .box _ _ => true
 | .buildSlice _ _ _ => true
 | .makeSlice _ _ _ => true
 | .makeMap _ _ => true
 | _ => false
def jV : List Oper → Bool
 | [] => false
 | o :: l => rX o || jV l
def rY : List Oper → Bool
 | [] => false
 | o :: l => (match o.op with
  | .call c => match c.callee with
   | .value _ => true
   | _ => false
  | _ => false) || rY l
def g8 (o : Oper) : Bool :=
 match o.op with
 | .store _ _ _ => true
 | .call c => match c.callee with
  | .builtin .copy => true
  | _ => false
 | _ => false
/-- A copy. -/
def cOf (C : Cx) (tm : T Sv) (hp : T Blk) (lo : Nat) (o : Oper) : Option (Nat × Blk × Nat) :=
 match o.guard, o.op with
 | none, .call c => match c.callee with
  | .builtin .copy => match evL tm c.args.toList with
   | some l => xI C hp lo c.argTypes.toList l
   | none => none
  | _ => none
 | _, _ => none
def rZ : List Oper → Bool
 | [] => false
 | o :: l => g8 o || rZ l
/-- All that is waited for, directly or not: 'fr' still to be looked at. -/
def clo (ops : List Oper) : Nat → List Nat → List Nat → List Nat
 | 0, _, acc => acc
 | _ + 1, [], acc => acc
 | f + 1, j :: fr, acc => bif acc.any fun k => Nat.beq k j then clo ops f fr acc else match nth ops j with
  | some o => clo ops f (cZ o ++ fr) (j :: acc)
  | none => clo ops f fr acc
def gH (ops : List Oper) (o : Oper) : List Nat := bif jV ops || rZ ops then clo ops 4000 (cZ o) [] else []
def jW (ops : List Oper) : List Nat → List Nat
 | [] => []
 | k :: l => match nth ops k with
  | some o => bif rX o then k :: jW ops l else jW ops l
  | none => jW ops l

/-- A store that has been carried out: which operation, which block, what it holds then. -/
structure Wr where
 k : Nat
 x : Nat
 c : Blk
/-- The memory that an operation may see: of the stores, those that it waits for have been carried out; the blocks of others are not pG. -/
def pG (anc : List Nat) (hp : T Blk) : List Wr → T Blk
 | [] => hp
 | r :: l => (pG anc hp l).set r.x (bif anc.any fun k => Nat.beq k r.k then some r.c else none)

def vR (nt : Nat) (d : Option Tmp) (s : Sv) (tm : T Sv) : Option (T Sv) :=
 match d with
 | none => some tm
 | some d => bif Nat.blt d nt then some (tm.set d (some s)) else none

/-- The block that a store turns, and what it holds then; what is to be shown ahead of it. -/
def stB (C : Cx) (tm : T Sv) (hp : T Blk) (lo : Nat) (t : TypeId) (x v : Operand) : Option (Option Bool × Nat × Blk) :=
 match tD C tm hp lo t x v with
 | some r => some (none, r)
 | none => match fD C tm hp lo t x v with
  | some r => some (some r.1, r.2)
  | none => none
/-- A call whose own row is taken up: by its summary of effects, or carried out. -/
def SI (C : Cx) (ih : FI → List Sv → St → aA (Sv × St)) (f : FuncId) (fi : FI) (args : List Sv) (st : St) : aA (Sv × St) :=
 match C.es.get f with
 | some g => (g st.hp st.nx st.lo args st.pc).bind fun r => .leaf (r.1, { st with hp := r.2.1.1, nx := r.2.1.2, pc := r.2.2 })
 | none => ih fi args st

/-- The head, in an order that the waits allow; 'top': above all blocks that the head may make; block i is made by operation i. -/
def fL (C : Cx) (ih : FI → List Sv → St → aA (Sv × St)) (nt : Nat) (ops : List Oper) (st : St) (top : Nat) : List Nat → T Sv → T Blk → List Wr → PC → aA (T Sv × T Blk × List Wr × PC)
 | [], tm, bk, wl, pc => .leaf (tm, bk, wl, pc)
 | i :: l, tm, bk, wl, pc => match nth ops i with
  | some o => match o.guard, aop C tm o.op with
   | none, some ar => match vR nt o.dst (ar.sv (st.nx + i)) tm with
    | some tm' => SG ar.ck (fL C ih nt ops st top l tm' (bk.set i (some ar.blk)) wl pc)
    | none => .fail
   | g, _ => match xT bk st.nx (jW ops (gH ops o)) with
    | some bl => match g, o.op with
     | none, .store t x v => match stB C tm (pG (gH ops o) (f7 st.hp bl) wl) st.lo t x v, vR nt o.dst .undef tm with
      | some r, some tm' => bif (wl.any fun q => Nat.beq q.x r.2.1) || !Nat.blt r.2.1 65535 then .fail else SG r.1 (fL C ih nt ops st top l tm' bk (⟨i, r.2.1, r.2.2⟩ :: wl) pc)
      | _, _ => .fail
     | _, _ => match J4 C ops tm o with
      | some (bx, want, _, gg, args) => dE C.D pc bx fun b pc1 => match b == want with
       | true => (pX gg (pG (gH ops o) (f7 st.hp bl) wl) top args pc1).bind fun r => match vR nt o.dst (jA (st.nx + i) r.1) tm with
        | some tm' => fL C ih nt ops st top l tm' bk wl r.2
        | none => .fail
       | false => match vR nt o.dst .undef tm with
        | some tm' => fL C ih nt ops st top l tm' bk wl pc1
        | none => .fail
      | none => match gOf C tm o with
      | some (_, gg, args) => (pX gg (pG (gH ops o) (f7 st.hp bl) wl) top args pc).bind fun r => match vR nt o.dst (jA (st.nx + i) r.1) tm with
       | some tm' => fL C ih nt ops st top l tm' bk wl r.2
       | none => .fail
      | none => match cOf C tm (pG (gH ops o) (f7 st.hp bl) wl) st.lo o, vR nt o.dst (.one (.int .i64 (.lit (.ofNat (kOf (cOf C tm (pG (gH ops o) (f7 st.hp bl) wl) st.lo o)))))) tm with
       | some r, some tm' => match (wl.any fun q => Nat.beq q.x r.1) || !Nat.blt r.1 65535 with
        | true => .fail
        | false => fL C ih nt ops st top l tm' bk (⟨i, r.1, r.2.1⟩ :: wl) pc
       | _, _ => match lOf C tm o with
       | some (f, fi, args) => (SI C ih f fi args ⟨.nil, pG (gH ops o) (f7 st.hp bl) wl, top, top, pc⟩).bind fun r => match DW r.2.hp top (st.nx + i) r.1 with
        | some (blk, sv) => match vR nt o.dst sv tm with
         | some tm' => fL C ih nt ops st top l tm' (bk.set i (some blk)) wl r.2.pc
         | none => .fail
        | none => .fail
       | none => (MM C ih ops o ⟨tm, pG (gH ops o) (f7 st.hp bl) wl, top, st.lo, pc⟩).bind fun r => match vR nt o.dst r.1 tm with
        | some tm' => fL C ih nt ops st top l tm' bk wl r.2
        | none => .fail
    | none => .fail
  | none => .fail

def mC : List Operand → List Tmp
 | [] => []
 | .tmp t :: l => t :: mC l
 | _ :: l => mC l
def eF (ops : List Oper) (o : Oper) : List Tmp :=
 match o.guard with
 | some (g, _) => match lH ops g with
  | some d => d :: mC o.op.operands.toList
  | none => mC o.op.operands.toList
 | none => mC o.op.operands.toList

def xU (o : Oper) : Bool :=
 match o.op with
 | .store _ _ _ => true
 | .mapUpdate _ _ _ _ => true
 | .assign _ => true
 | .call c => match c.callee with
  | .builtin .append => true
  | _ => false
 | _ => false
def wJ (o : Oper) : Bool :=
 match o.op with
 | .assign _ => false
 | _ => xU o
def jC (p : Oper → Bool) : List Oper → Nat
 | [] => 0
 | o :: l => bif p o then 0 else jC p l + 1
def UJ (n : Nat) : Nat → List Oper → List Nat
 | _, [] => []
 | i, o :: l => bif Nat.blt i n && rX o && o.after.toList.isEmpty then i :: UJ n (i + 1) l else UJ n (i + 1) l
def UK (n : Nat) : Nat → List Oper → List Nat
 | _, [] => []
 | i, o :: l => bif Nat.blt i n && !(rX o && o.after.toList.isEmpty) then i :: UK n (i + 1) l else UK n (i + 1) l
def UL (n : Nat) (ops : List Oper) : List Nat := UJ n 0 ops ++ UK n 0 ops
def mD (l : List Nat) (i : Nat) : Bool := l.any fun k => Nat.beq k i
/-- Stores as early as may be. -/
def PN (ops : List Oper) (base : List Nat) : List Nat → List Nat → List Nat
 | [], done => base.filter fun i => !mD done i
 | k :: l, done => match nth ops k with
  | some o => bif g8 o then
    let a := clo ops 4000 (cZ o) []
    let new := (base.filter fun i => mD a i && !mD done i)
    new ++ bif mD new k || mD done k then PN ops base l (new ++ done) else k :: PN ops base l (k :: (new ++ done))
   else PN ops base l done
  | none => PN ops base l done
def CA (n : Nat) (ops : List Oper) : List Nat := bif rZ ops && Nat.beq n (lenL' ops) then PN ops (UL n ops) (UL n ops) [] else UL n ops
where lenL' : List Oper → Nat
 | [] => 0
 | _ :: l => lenL' l + 1

def xV (d : Nat) : Nat → List Oper → Option Nat
 | _, [] => none
 | i, o :: l => match o.dst with
  | some e => bif Nat.beq e d then some i else xV d (i + 1) l
  | none => xV d (i + 1) l
def aJ (p : Nat → Bool) : Nat → Bool
 | 0 => true
 | n + 1 => p n && aJ p n
def p0 (ops : List Oper) (j i : Nat) : Bool :=
 match nth ops j with
 | some o => (cZ o).any fun k => Nat.beq k i
 | none => false
def DX (p : Nat → Bool) : Nat → Bool
 | 0 => false
 | n + 1 => p n || DX p n
def PO (o : Option Nat) (i : Nat) : Bool :=
 match o with
 | some j => Nat.beq j i
 | none => false
def iE {α : Type} : List α → Nat
 | [] => 0
 | _ :: l => iE l + 1
def g9 (ops : List Oper) (n : Nat) : List Nat → List Nat → Bool
 | [], _ => true
 | i :: l, done => Nat.blt i n && !(done.any fun k => Nat.beq k i) && (match nth ops i with
  | some o => ((cZ o).all fun j => done.any fun k => Nat.beq k j) && (!g8 o || done.all fun j => mD (gH ops o) j)
  | none => false) && g9 ops n l (i :: done)
/-- The text's own part: slots apart; the tail's first operation waits for all of the head; each other one of the tail for the one before it; none of the tail for a later one; each slot that the head reads is not the head's, or of an operation that it waits for, or of one that waits for it. -/
def pL (ops : List Oper) (n m : Nat) : Bool :=
 aJ (fun i => match nth ops i with
  | some o => (match o.dst with
   | some d => PO (xV d 0 ops) i
   | none => true) && (eF ops o).all fun t => match xV t 0 ops with
    | some k => Nat.ble n k || p0 ops i k || p0 ops k i || Nat.beq k i
    | none => true
  | none => false) n &&
 g9 ops n (CA n ops) [] && aJ (fun i => (CA n ops).any fun k => Nat.beq k i) n &&
 (Nat.beq n m ||
  (aJ (fun i => DX (fun j => Nat.blt i j && p0 ops j i) (n + 1)) n && aJ (fun t => Nat.ble t n || p0 ops t (t - 1)) m && Nat.blt n m &&
   aJ (fun t => Nat.blt t n || (match nth ops t with
    | some o => (cZ o).all fun k => Nat.blt k t
    | none => false)) m))
/-- How long the head is. -/
def PP (ops : List Oper) : Option Nat :=
 bif pL ops (jC xU ops) (iE ops) then some (jC xU ops)
 else bif pL ops (jC wJ ops) (iE ops) then some (jC wJ ops) else bif pL ops (iE ops) (iE ops) then some (iE ops) else none

/-- Is the last operation a call of a function that writes, and of which nothing is known? -/
def xW (C : Cx) : List Oper → Bool
 | [] => false
 | [o] => match o.guard, o.op with
  | none, .call c => match c.callee with
   | .value (.func f) => match C.sm.get f, C.hs.get f, C.gs.get f, C.ft.get f with
    | none, none, none, some fi => !fi.quiet
    | none, none, some _, _ => true
    | _, _, _, _ => false
   | _ => false
  | _, _ => false
 | _ :: l => xW C l
def SJ (C : Cx) (ops : List Oper) : Option Nat :=
 bif xW C ops && pL ops (iE ops - 1) (iE ops) then some (iE ops - 1) else PP ops

def MN {α : Type} : Nat → List α → List α
 | 0, l => l
 | _, [] => []
 | n + 1, _ :: l => MN n l

/-- All blocks of the head. -/
def mE (bk : T Blk) (nx : Nat) : Nat → List (Nat × Blk)
 | 0 => []
 | n + 1 => match bk.get n with
  | some b => (nx + n, b) :: mE bk nx n
  | none => mE bk nx n

def GO (hp : T Blk) : List Wr → T Blk
 | [] => hp
 | r :: l => (GO hp l).set r.x (some r.c)

def MO (C : Cx) : jU := fun ih nt ops st =>
 match SJ C ops with
 | some n => bif Nat.ble (st.nx + n) 65000 then
   (fL C ih nt ops st (st.nx + n) (CA n ops) st.tm .nil [] st.pc).bind fun r =>
    tH C ih nt ops (MN n ops) ⟨r.1, GO (f7 st.hp (bif jV ops || rY ops then mE r.2.1 st.nx n else [])) r.2.2.1, st.nx + n, st.lo, r.2.2.2⟩
  else .fail
 | none => .fail

/-! ## Operations that look at slots alone may be taken first -/
def DY : Op → Bool
 | .move _ => true
 | .nilCheck _ => true
 | .fieldAddr _ _ _ => true
 | _ => false
def jD : Op → Bool
 | .select _ _ => false
 | .defer _ => false
 | _ => true
def DZ (o : Oper) : Bool :=
 match o.guard with
 | none => true
 | some _ => false
def N6 : Nat → List Oper → List Nat → List Nat
 | _, [], acc => acc
 | i, o :: l, acc => N6 (i + 1) l (bif DZ o && (DY o.op && (cZ o).all (mD acc)) then acc ++ [i] else acc)
def D0 (d : Option Tmp) (l : List Tmp) : Bool :=
 match d with
 | some d => !mD l d
 | none => true
def TW (x y : Option Tmp) : Bool :=
 match x, y with
 | some d, some e => !Nat.beq d e
 | _, _ => true
def J6 (ops : List Oper) (x y : Oper) : Bool := D0 x.dst (eF ops y) && (D0 y.dst (eF ops x) && TW x.dst y.dst)
def TX (ops : List Oper) (i : Nat) (o : Oper) (dn : List Nat) (j : Nat) : Bool :=
 mD dn j || (Nat.beq j i || (p0 ops j i || (match nth ops j with
  | some y => J6 ops o y
  | none => true)))
def UM (ops : List Oper) (n i : Nat) (o : Oper) (dn : List Nat) : Bool :=
 Nat.blt i n && (DZ o && (DY o.op && (!mD dn i && ((cZ o).all (mD dn) && aJ (TX ops i o dn) n))))
def r8 (C : Cx) (nt : Nat) (ops : List Oper) (n : Nat) : List Nat → List Nat → St → aA St
 | [], _, st => .leaf st
 | i :: l, dn, st => match nth ops i with
  | some o => bif UM ops n i o dn then (qop C .nil st.tm st.pc o.op).bind fun r => (f6 nt o.dst r.1 { st with pc := r.2 }).bind fun st => r8 C nt ops n l (i :: dn) st else .fail
  | none => .fail
def iG : List Nat → Nat → Nat
 | [], _ => 0
 | k :: l, i => bif Nat.beq k i then 0 else iG l i + 1
def UN (R : List Nat) : Option (Nat × Bool) → Option (Nat × Bool)
 | some (j, b) => some (iG R j, b)
 | none => none
def D1 (R fl : List Nat) (o : Oper) : Oper := { o with after := ((o.after.toList.filter fun e => !mD fl e.on).map fun e => { e with on := iG R e.on }).toArray, guard := UN R o.guard }
def GP (ops : List Oper) (R fl : List Nat) : List Nat → Option (List Oper)
 | [] => some []
 | i :: l => match nth ops i, GP ops R fl l with
  | some o, some m => some (D1 R fl o :: m)
  | _, _ => none
def xX (fl : List Nat) : Nat → List Oper → List Nat
 | _, [] => []
 | i, _ :: l => bif mD fl i then xX fl (i + 1) l else i :: xX fl (i + 1) l
def PQ (n : Nat) (fl : List Nat) (o : Oper) : Bool :=
 jD o.op && ((cZ o).all (fun k => Nat.blt k n) && (match o.guard with
  | some (j, _) => Nat.blt j n && !mD fl j
  | none => true))
def D2 (ops : List Oper) (n : Nat) (R fl : List Nat) : Bool :=
 Nat.beq (iE R + iE fl) n && (aJ (fun i => mD fl i || PO (nth R (iG R i)) i) n &&
 (aJ (fun j => match nth R j with
  | some i => Nat.blt i n && (!mD fl i && Nat.beq (iG R i) j)
  | none => false) (iE R) && ops.all (PQ n fl)))
def PR (C : Cx) : jU := fun ih nt ops st =>
 match N6 0 ops [] with
 | fl => match xX fl 0 ops with
  | R => match GP ops R fl R with
   | some l => bif D2 ops (iE ops) R fl then (r8 C nt ops (iE ops) fl [] st).bind fun st => MO C ih nt l st else .fail
   | none => .fail
/-- Operations that the head can not carry out. -/
def UO (o : Oper) : Bool :=
 match o.op with
 | .mapUpdate _ _ _ _ => true
 | .call c => match c.callee with
  | .builtin .append => true
  | _ => false
 | _ => false
def W9 (C : Cx) (ops : List Oper) : Bool :=
 match SJ C ops with
 | some n => Nat.beq n (iE ops) && ops.any UO
 | none => true
def xY (C : Cx) : jU := fun ih nt ops st => bif W9 C ops then PR C ih nt ops st else MO C ih nt ops st

end
end Go.Ex

