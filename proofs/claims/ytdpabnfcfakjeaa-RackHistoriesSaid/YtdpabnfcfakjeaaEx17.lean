/-
  The executor: regions that draw their order. A head of quiet operations and of new blocks in any order that the waits allow, then a tail in the text's order.
-/
import Derived.Test.YtdpabnfcfakjeaaEx15a
import Derived.StillTail

namespace Go.Ex
open Go Go.RowKit
noncomputable section

def aftOf (o : Oper) : List Nat := (o.after.toList.filter fun e => Region.binds .any e).map (·.on)

def hpAdd (hp : T Blk) : List (Nat × Blk) → T Blk
  | [] => hp
  | p :: l => (hpAdd hp l).set p.1 (some p.2)

/-- The blocks that these operations of the head have made. -/
def blksOf (bk : T Blk) (nx : Nat) : List Nat → Option (List (Nat × Blk))
  | [] => some []
  | k :: l => match bk.get k, blksOf bk nx l with
    | some b, some m => some ((nx + k, b) :: m)
    | _, _ => none

def callQ (C : Cx) (ih : FI → List Sv → St → Tree (Sv × St)) (f : FuncId) (args : List Sv) (st : St) : Tree (Sv × PC) :=
  match C.sm.get f with
  | some g => smStep g st.hp st.nx args st.pc
  | none => match C.hs.get f with
    | some g => g st.hp args st.pc
    | none => match C.ft.get f with
      | some fi => bif fi.quiet then (ih fi args { st with lo := st.nx }).bind fun r => bif below st.nx r.1 then .leaf (r.1, r.2.pc) else .fail else .fail
      | none => .fail

def quietX (C : Cx) (ih : FI → List Sv → St → Tree (Sv × St)) (op : Op) (st : St) : Tree (Sv × PC) :=
  match op with
  | .call c => match c.callee with
    | .value fx => match evX st.tm fx, evL st.tm c.args.toList with
      | some (.one (.fn f caps)), some args => callQ C ih f (args ++ capS caps) st
      | _, _ => .fail
    | _ => qop C st.hp st.tm st.pc (.call c)
  | op => qop C st.hp st.tm st.pc op

def headX (C : Cx) (ih : FI → List Sv → St → Tree (Sv × St)) (ops : List Oper) (o : Oper) (st : St) : Tree (Sv × PC) :=
  match o.guard with
  | none => quietX C ih o.op st
  | some (j, want) => match gslot ops j with
    | some d => match st.tm.get d with
      | some (.one (.bool bx)) => branch C.D st.pc bx fun b pc => match b == want with
        | true => quietX C ih o.op { st with pc := pc }
        | false => .leaf (.undef, pc)
      | some .undef => .leaf (.undef, st.pc)
      | _ => .fail
    | none => .fail

/-! ## What the text of a region says -/
/-- A call that hands back memory of its own. -/
def gOf (C : Cx) (tm : T Sv) (o : Oper) : Option (FuncId × (List Sv → PC → Tree (Sv × PC)) × List Sv) :=
  match o.guard, o.op with
  | none, .call c => match c.callee with
    | .value fx => match evX tm fx, evL tm c.args.toList with
      | some (.one (.fn f caps)), some args => match C.sm.get f, C.hs.get f, C.gs.get f with
        | none, none, some g => some (f, g, args ++ capS caps)
        | _, _, _ => none
      | _, _ => none
    | _ => none
  | _, _ => none
/-- A call of a function of which nothing is known. -/
def lOf (C : Cx) (tm : T Sv) (o : Oper) : Option (FuncId × FI × List Sv) :=
  match o.guard, o.op with
  | none, .call c => match c.callee with
    | .value fx => match evX tm fx, evL tm c.args.toList with
      | some (.one (.fn f caps)), some args => match C.sm.get f, C.hs.get f, C.gs.get f, C.ft.get f with
        | none, none, none, some fi => match fi.quiet with
          | true => none
          | false => some (f, fi, args ++ capS caps)
        | _, _, _, _ => none
      | _, _ => none
    | _ => none
  | _, _ => none
/-- A guarded call that hands back memory of its own. -/
def gGuard (C : Cx) (ops : List Oper) (tm : T Sv) (o : Oper) : Option (Bx × Bool × (FuncId × (List Sv → PC → Tree (Sv × PC)) × List Sv)) :=
  match o.guard with
  | some (j, want) => match gslot ops j with
    | some d => match tm.get d, gOf C tm { o with guard := none } with
      | some (.one (.bool bx)), some x => some (bx, want, x)
      | _, _ => none
    | none => none
  | none => none
def plainB : Sc → Bool
  | .bool _ => true
  | .int _ _ => true
  | .str _ => true
  | .ostr _ => true
  | _ => false
def kOf (r : Option (Nat × Blk × Nat)) : Nat :=
  match r with
  | some r => r.2.2
  | none => 0
/-- A row of plain data that was made above 'top', by a new number. -/
def ownRow (hp : T Blk) (top m : Nat) (s : Sv) : Option (Blk × Sv) :=
  match s with
  | .one (.slice (some (b, 0)) n (.rest r)) => match hp.get b with
    | some (.cells e sz l) => match Nat.ble top b && l.all plainB with
      | true => some (.cells e sz l, .one (.slice (some (m, 0)) n (.rest r)))
      | false => none
    | _ => none
  | .one (.own b n) => match hp.get b with
    | some (.row e cs n' f) => match Nat.ble top b && cs.all plainSh with
      | true => some (.row e cs n' f, .one (.own m n))
      | false => none
    | _ => none
  | _ => none
def isAlloc (o : Oper) : Bool :=
  match o.op with
  | .alloc _ => true
  | .box _ _ => true
  | .buildSlice _ _ _ => true
  | .makeSlice _ _ _ => true
  | .makeMap _ _ => true
  | _ => false
def anyAlloc : List Oper → Bool
  | [] => false
  | o :: l => isAlloc o || anyAlloc l
def anyCall : List Oper → Bool
  | [] => false
  | o :: l => (match o.op with
    | .call c => match c.callee with
      | .value _ => true
      | _ => false
    | _ => false) || anyCall l
def isStore (o : Oper) : Bool :=
  match o.op with
  | .store _ _ _ => true
  | .call c => match c.callee with
    | .builtin .copy => true
    | _ => false
  | _ => false
/-- A copy. -/
def cOf (C : Cx) (tm : T Sv) (hp : T Blk) (lo : Nat) (o : Oper) : Option (Nat × Blk × Nat) :=
  match o.guard, o.op with
  | none, .call c => match c.callee with
    | .builtin .copy => match evL tm c.args.toList with
      | some l => copyB C hp lo c.argTypes.toList l
      | none => none
    | _ => none
  | _, _ => none
def anyStore : List Oper → Bool
  | [] => false
  | o :: l => isStore o || anyStore l
/-- All that is waited for, directly or not: 'fr' still to be looked at. -/
def clo (ops : List Oper) : Nat → List Nat → List Nat → List Nat
  | 0, _, acc => acc
  | _ + 1, [], acc => acc
  | f + 1, j :: fr, acc => bif acc.any fun k => Nat.beq k j then clo ops f fr acc else match nth ops j with
    | some o => clo ops f (aftOf o ++ fr) (j :: acc)
    | none => clo ops f fr acc
def ancOf (ops : List Oper) (o : Oper) : List Nat := bif anyAlloc ops || anyStore ops then clo ops 4000 (aftOf o) [] else []
def allocsOf (ops : List Oper) : List Nat → List Nat
  | [] => []
  | k :: l => match nth ops k with
    | some o => bif isAlloc o then k :: allocsOf ops l else allocsOf ops l
    | none => allocsOf ops l

/-- A store that has been carried out: which operation, which block, what it holds then. -/
structure Wr where
  k : Nat
  x : Nat
  c : Blk
/-- The memory that an operation may see: of the stores, those that it waits for have been carried out; the blocks of others are not seen. -/
def seen (anc : List Nat) (hp : T Blk) : List Wr → T Blk
  | [] => hp
  | r :: l => (seen anc hp l).set r.x (bif anc.any fun k => Nat.beq k r.k then some r.c else none)

def putT (nt : Nat) (d : Option Tmp) (s : Sv) (tm : T Sv) : Option (T Sv) :=
  match d with
  | none => some tm
  | some d => bif Nat.blt d nt then some (tm.set d (some s)) else none

/-- The head, in an order that the waits allow; 'top': above all blocks that the head may make; block i is made by operation i. -/
def headRun (C : Cx) (ih : FI → List Sv → St → Tree (Sv × St)) (nt : Nat) (ops : List Oper) (st : St) (top : Nat) : List Nat → T Sv → T Blk → List Wr → PC → Tree (T Sv × T Blk × List Wr × PC)
  | [], tm, bk, wl, pc => .leaf (tm, bk, wl, pc)
  | i :: l, tm, bk, wl, pc => match nth ops i with
    | some o => match o.guard, aop C tm o.op with
      | none, some ar => match putT nt o.dst (ar.sv (st.nx + i)) tm with
        | some tm' => chkO ar.ck (headRun C ih nt ops st top l tm' (bk.set i (some ar.blk)) wl pc)
        | none => .fail
      | g, _ => match blksOf bk st.nx (allocsOf ops (ancOf ops o)) with
        | some bl => match g, o.op with
          | none, .store t x v => match storeB C tm (seen (ancOf ops o) (hpAdd st.hp bl) wl) st.lo t x v, putT nt o.dst .undef tm with
            | some r, some tm' => bif (wl.any fun q => Nat.beq q.x r.1) || !Nat.blt r.1 65535 then .fail else headRun C ih nt ops st top l tm' bk (⟨i, r.1, r.2⟩ :: wl) pc
            | _, _ => .fail
          | _, _ => match gGuard C ops tm o with
           | some (bx, want, _, gg, args) => branch C.D pc bx fun b pc1 => match b == want with
             | true => (gsStep gg (seen (ancOf ops o) (hpAdd st.hp bl) wl) top args pc1).bind fun r => match putT nt o.dst (reSv (st.nx + i) r.1) tm with
               | some tm' => headRun C ih nt ops st top l tm' bk wl r.2
               | none => .fail
             | false => match putT nt o.dst .undef tm with
               | some tm' => headRun C ih nt ops st top l tm' bk wl pc1
               | none => .fail
           | none => match gOf C tm o with
            | some (_, gg, args) => (gsStep gg (seen (ancOf ops o) (hpAdd st.hp bl) wl) top args pc).bind fun r => match putT nt o.dst (reSv (st.nx + i) r.1) tm with
              | some tm' => headRun C ih nt ops st top l tm' bk wl r.2
              | none => .fail
            | none => match cOf C tm (seen (ancOf ops o) (hpAdd st.hp bl) wl) st.lo o, putT nt o.dst (.one (.int .i64 (.lit (.ofNat (kOf (cOf C tm (seen (ancOf ops o) (hpAdd st.hp bl) wl) st.lo o)))))) tm with
             | some r, some tm' => match (wl.any fun q => Nat.beq q.x r.1) || !Nat.blt r.1 65535 with
               | true => .fail
               | false => headRun C ih nt ops st top l tm' bk (⟨i, r.1, r.2.1⟩ :: wl) pc
             | _, _ => match lOf C tm o with
              | some (_, fi, args) => (ih fi args ⟨.nil, seen (ancOf ops o) (hpAdd st.hp bl) wl, top, top, pc⟩).bind fun r => match ownRow r.2.hp top (st.nx + i) r.1 with
                | some (blk, sv) => match putT nt o.dst sv tm with
                  | some tm' => headRun C ih nt ops st top l tm' (bk.set i (some blk)) wl r.2.pc
                  | none => .fail
                | none => .fail
              | none => (headX C ih ops o ⟨tm, seen (ancOf ops o) (hpAdd st.hp bl) wl, top, st.lo, pc⟩).bind fun r => match putT nt o.dst r.1 tm with
                | some tm' => headRun C ih nt ops st top l tm' bk wl r.2
                | none => .fail
        | none => .fail
    | none => .fail

def tmpsOf : List Operand → List Tmp
  | [] => []
  | .tmp t :: l => t :: tmpsOf l
  | _ :: l => tmpsOf l
def slotsOf (ops : List Oper) (o : Oper) : List Tmp :=
  match o.guard with
  | some (g, _) => match gslot ops g with
    | some d => d :: tmpsOf o.op.operands.toList
    | none => tmpsOf o.op.operands.toList
  | none => tmpsOf o.op.operands.toList

def isTail (o : Oper) : Bool :=
  match o.op with
  | .store _ _ _ => true
  | .mapUpdate _ _ _ _ => true
  | .assign _ => true
  | .call c => match c.callee with
    | .builtin .append => true
    | _ => false
  | _ => false
def isWrite (o : Oper) : Bool :=
  match o.op with
  | .assign _ => false
  | _ => isTail o
def headLen (p : Oper → Bool) : List Oper → Nat
  | [] => 0
  | o :: l => bif p o then 0 else headLen p l + 1
def ordA (n : Nat) : Nat → List Oper → List Nat
  | _, [] => []
  | i, o :: l => bif Nat.blt i n && isAlloc o && o.after.toList.isEmpty then i :: ordA n (i + 1) l else ordA n (i + 1) l
def ordB (n : Nat) : Nat → List Oper → List Nat
  | _, [] => []
  | i, o :: l => bif Nat.blt i n && !(isAlloc o && o.after.toList.isEmpty) then i :: ordB n (i + 1) l else ordB n (i + 1) l
def ordP (n : Nat) (ops : List Oper) : List Nat := ordA n 0 ops ++ ordB n 0 ops
def memB (l : List Nat) (i : Nat) : Bool := l.any fun k => Nat.beq k i
/-- Stores as early as may be. -/
def ordS (ops : List Oper) (base : List Nat) : List Nat → List Nat → List Nat
  | [], done => base.filter fun i => !memB done i
  | k :: l, done => match nth ops k with
    | some o => bif isStore o then
        let a := clo ops 4000 (aftOf o) []
        let new := (base.filter fun i => memB a i && !memB done i)
        new ++ bif memB new k || memB done k then ordS ops base l (new ++ done) else k :: ordS ops base l (k :: (new ++ done))
      else ordS ops base l done
    | none => ordS ops base l done
def ordOf (n : Nat) (ops : List Oper) : List Nat := bif anyStore ops && Nat.beq n (lenL' ops) then ordS ops (ordP n ops) (ordP n ops) [] else ordP n ops
where lenL' : List Oper → Nat
  | [] => 0
  | _ :: l => lenL' l + 1

def firstD (d : Nat) : Nat → List Oper → Option Nat
  | _, [] => none
  | i, o :: l => match o.dst with
    | some e => bif Nat.beq e d then some i else firstD d (i + 1) l
    | none => firstD d (i + 1) l
def natAll (p : Nat → Bool) : Nat → Bool
  | 0 => true
  | n + 1 => p n && natAll p n
def waitsB (ops : List Oper) (j i : Nat) : Bool :=
  match nth ops j with
  | some o => (aftOf o).any fun k => Nat.beq k i
  | none => false
def natAny (p : Nat → Bool) : Nat → Bool
  | 0 => false
  | n + 1 => p n || natAny p n
def optIs (o : Option Nat) (i : Nat) : Bool :=
  match o with
  | some j => Nat.beq j i
  | none => false
def lenL {α : Type} : List α → Nat
  | [] => 0
  | _ :: l => lenL l + 1
def ordGood (ops : List Oper) (n : Nat) : List Nat → List Nat → Bool
  | [], _ => true
  | i :: l, done => Nat.blt i n && !(done.any fun k => Nat.beq k i) && (match nth ops i with
    | some o => ((aftOf o).all fun j => done.any fun k => Nat.beq k j) && (!isStore o || done.all fun j => memB (ancOf ops o) j)
    | none => false) && ordGood ops n l (i :: done)
/-- The text's own part: slots apart; the tail's first operation waits for all of the head; each other one of the tail for the one before it; none of the tail for a later one; each slot that the head reads is not the head's, or of an operation that it waits for, or of one that waits for it. -/
def drawB (ops : List Oper) (n m : Nat) : Bool :=
  natAll (fun i => match nth ops i with
    | some o => (match o.dst with
      | some d => optIs (firstD d 0 ops) i
      | none => true) && (slotsOf ops o).all fun t => match firstD t 0 ops with
        | some k => Nat.ble n k || waitsB ops i k || waitsB ops k i || Nat.beq k i
        | none => true
    | none => false) n &&
  ordGood ops n (ordOf n ops) [] && natAll (fun i => (ordOf n ops).any fun k => Nat.beq k i) n &&
  (Nat.beq n m ||
    (natAll (fun i => natAny (fun j => Nat.blt i j && waitsB ops j i) (n + 1)) n && natAll (fun t => Nat.ble t n || waitsB ops t (t - 1)) m && Nat.blt n m &&
      natAll (fun t => Nat.blt t n || (match nth ops t with
        | some o => (aftOf o).all fun k => Nat.blt k t
        | none => false)) m))
/-- How long the head is. -/
def cutOf (ops : List Oper) : Option Nat :=
  bif drawB ops (headLen isTail ops) (lenL ops) then some (headLen isTail ops)
  else bif drawB ops (headLen isWrite ops) (lenL ops) then some (headLen isWrite ops) else bif drawB ops (lenL ops) (lenL ops) then some (lenL ops) else none

/-- Is the last operation a call of a function that writes, and of which nothing is known? -/
def loudLast (C : Cx) : List Oper → Bool
  | [] => false
  | [o] => match o.guard, o.op with
    | none, .call c => match c.callee with
      | .value (.func f) => match C.sm.get f, C.hs.get f, C.gs.get f, C.ft.get f with
        | none, none, none, some fi => !fi.quiet
        | none, none, some _, _ => true
        | _, _, _, _ => false
      | _ => false
    | _, _ => false
  | _ :: l => loudLast C l
def cutC (C : Cx) (ops : List Oper) : Option Nat :=
  bif loudLast C ops && drawB ops (lenL ops - 1) (lenL ops) then some (lenL ops - 1) else cutOf ops

def dropL {α : Type} : Nat → List α → List α
  | 0, l => l
  | _, [] => []
  | n + 1, _ :: l => dropL n l

/-- All blocks of the head. -/
def blksAll (bk : T Blk) (nx : Nat) : Nat → List (Nat × Blk)
  | 0 => []
  | n + 1 => match bk.get n with
    | some b => (nx + n, b) :: blksAll bk nx n
    | none => blksAll bk nx n

def wrAll (hp : T Blk) : List Wr → T Blk
  | [] => hp
  | r :: l => (wrAll hp l).set r.x (some r.c)

def draw0 (C : Cx) : Drawer := fun ih nt ops st =>
  match cutC C ops with
  | some n => bif Nat.ble (st.nx + n) 65000 then
      (headRun C ih nt ops st (st.nx + n) (ordOf n ops) st.tm .nil [] st.pc).bind fun r =>
        seqOps C ih nt ops (dropL n ops) ⟨r.1, wrAll (hpAdd st.hp (bif anyAlloc ops || anyCall ops then blksAll r.2.1 st.nx n else [])) r.2.2.1, st.nx + n, st.lo, r.2.2.2⟩
    else .fail
  | none => .fail

/-! ## Operations that look at slots alone may be taken first -/
def pureOp : Op → Bool
  | .move _ => true
  | .nilCheck _ => true
  | .fieldAddr _ _ _ => true
  | _ => false
def plainOp : Op → Bool
  | .select _ _ => false
  | .defer _ => false
  | _ => true
def noGuard (o : Oper) : Bool :=
  match o.guard with
  | none => true
  | some _ => false
def flOf : Nat → List Oper → List Nat → List Nat
  | _, [], acc => acc
  | i, o :: l, acc => flOf (i + 1) l (bif noGuard o && (pureOp o.op && (aftOf o).all (memB acc)) then acc ++ [i] else acc)
def dstNot (d : Option Tmp) (l : List Tmp) : Bool :=
  match d with
  | some d => !memB l d
  | none => true
def dstNe (x y : Option Tmp) : Bool :=
  match x, y with
  | some d, some e => !Nat.beq d e
  | _, _ => true
def apartL (ops : List Oper) (x y : Oper) : Bool := dstNot x.dst (slotsOf ops y) && (dstNot y.dst (slotsOf ops x) && dstNe x.dst y.dst)
def freeL (ops : List Oper) (i : Nat) (o : Oper) (dn : List Nat) (j : Nat) : Bool :=
  memB dn j || (Nat.beq j i || (waitsB ops j i || (match nth ops j with
    | some y => apartL ops o y
    | none => true)))
def okFl (ops : List Oper) (n i : Nat) (o : Oper) (dn : List Nat) : Bool :=
  Nat.blt i n && (noGuard o && (pureOp o.op && (!memB dn i && ((aftOf o).all (memB dn) && natAll (freeL ops i o dn) n))))
def floatRun (C : Cx) (nt : Nat) (ops : List Oper) (n : Nat) : List Nat → List Nat → St → Tree St
  | [], _, st => .leaf st
  | i :: l, dn, st => match nth ops i with
    | some o => bif okFl ops n i o dn then (qop C .nil st.tm st.pc o.op).bind fun r => (putSt nt o.dst r.1 { st with pc := r.2 }).bind fun st => floatRun C nt ops n l (i :: dn) st else .fail
    | none => .fail
def posOf : List Nat → Nat → Nat
  | [], _ => 0
  | k :: l, i => bif Nat.beq k i then 0 else posOf l i + 1
def renG (R : List Nat) : Option (Nat × Bool) → Option (Nat × Bool)
  | some (j, b) => some (posOf R j, b)
  | none => none
def renO (R fl : List Nat) (o : Oper) : Oper := { o with after := ((o.after.toList.filter fun e => !memB fl e.on).map fun e => { e with on := posOf R e.on }).toArray, guard := renG R o.guard }
def pickL (ops : List Oper) (R fl : List Nat) : List Nat → Option (List Oper)
  | [] => some []
  | i :: l => match nth ops i, pickL ops R fl l with
    | some o, some m => some (renO R fl o :: m)
    | _, _ => none
def restIx (fl : List Nat) : Nat → List Oper → List Nat
  | _, [] => []
  | i, _ :: l => bif memB fl i then restIx fl (i + 1) l else i :: restIx fl (i + 1) l
def plainO (n : Nat) (fl : List Nat) (o : Oper) : Bool :=
  plainOp o.op && ((aftOf o).all (fun k => Nat.blt k n) && (match o.guard with
    | some (j, _) => Nat.blt j n && !memB fl j
    | none => true))
def restOk (ops : List Oper) (n : Nat) (R fl : List Nat) : Bool :=
  Nat.beq (lenL R + lenL fl) n && (natAll (fun i => memB fl i || optIs (nth R (posOf R i)) i) n &&
  (natAll (fun j => match nth R j with
    | some i => Nat.blt i n && (!memB fl i && Nat.beq (posOf R i) j)
    | none => false) (lenL R) && ops.all (plainO n fl)))
def drawF (C : Cx) : Drawer := fun ih nt ops st =>
  match flOf 0 ops [] with
  | fl => match restIx fl 0 ops with
    | R => match pickL ops R fl R with
      | some l => bif restOk ops (lenL ops) R fl then (floatRun C nt ops (lenL ops) fl [] st).bind fun st => draw0 C ih nt l st else .fail
      | none => .fail
/-- Operations that the head can not carry out. -/
def isHard (o : Oper) : Bool :=
  match o.op with
  | .mapUpdate _ _ _ _ => true
  | .call c => match c.callee with
    | .builtin .append => true
    | _ => false
  | _ => false
def useF (C : Cx) (ops : List Oper) : Bool :=
  match cutC C ops with
  | some n => Nat.beq n (lenL ops) && ops.any isHard
  | none => true
def drawX (C : Cx) : Drawer := fun ih nt ops st => bif useF C ops then drawF C ih nt ops st else draw0 C ih nt ops st

end
end Go.Ex

