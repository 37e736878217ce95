/-
  The executor: regions that draw their order. A head of quiet operations and of new blocks in any order that the waits allow, then a tail in the text's order.
-/
/-
  That the executor of regions that draw their order is right: its parts.
-/
/-
  That the executor of regions that draw their order is right: the head.
-/
/-
  That the executor of regions that draw their order is right: any order.
-/
/-
  That the executor of regions that draw their order is right.
-/
import Derived.Test.YtoheddhbcpjmkaaExP4
import Derived.StillTail

namespace Go.Ex
open Go Go.RowKit
noncomputable section

def aftOf (o : Oper) : List Nat := (o.after.toList.filter fun e => Region.binds .any e).map (·.on)

def hpAdd (hp : T Blk) : List (Nat × Blk) → T Blk
  | [] => hp
  | p :: l => (hpAdd hp l).set p.1 (some p.2)

/-- The blocks that these operations of the head have made. -/
def blksOf (bk : T Blk) (nx : Nat) : List Nat → Option (List (Nat × Blk))
  | [] => some []
  | k :: l => match bk.get k, blksOf bk nx l with
    | some b, some m => some ((nx + k, b) :: m)
    | _, _ => none

def callQ (C : Cx) (ih : FI → List Sv → St → Tree (Sv × St)) (f : FuncId) (args : List Sv) (st : St) : Tree (Sv × PC) :=
  match C.sm.get f with
  | some g => g args st.pc
  | none => match C.hs.get f with
    | some g => g st.hp args st.pc
    | none => match C.ft.get f with
      | some fi => bif fi.quiet then (ih fi args { st with lo := st.nx }).bind fun r => bif below st.nx r.1 then .leaf (r.1, r.2.pc) else .fail else .fail
      | none => .fail

def quietX (C : Cx) (ih : FI → List Sv → St → Tree (Sv × St)) (op : Op) (st : St) : Tree (Sv × PC) :=
  match op with
  | .call c => match c.callee with
    | .value fx => match evX st.tm fx, evL st.tm c.args.toList with
      | some (.one (.fn f caps)), some args => callQ C ih f (args ++ capS caps) st
      | _, _ => .fail
    | _ => qop C st.hp st.tm st.pc (.call c)
  | op => qop C st.hp st.tm st.pc op

def headX (C : Cx) (ih : FI → List Sv → St → Tree (Sv × St)) (ops : List Oper) (o : Oper) (st : St) : Tree (Sv × PC) :=
  match o.guard with
  | none => quietX C ih o.op st
  | some (j, want) => match gslot ops j with
    | some d => match st.tm.get d with
      | some (.one (.bool bx)) => branch C.D st.pc bx fun b pc => match b == want with
        | true => quietX C ih o.op { st with pc := pc }
        | false => .leaf (.undef, pc)
      | some .undef => .leaf (.undef, st.pc)
      | _ => .fail
    | none => .fail

/-! ## What the text of a region says -/
def isAlloc (o : Oper) : Bool :=
  match o.op with
  | .alloc _ => true
  | .box _ _ => true
  | .buildSlice _ _ _ => true
  | .makeSlice _ _ _ => true
  | .makeMap _ _ => true
  | _ => false
def anyAlloc : List Oper → Bool
  | [] => false
  | o :: l => isAlloc o || anyAlloc l
def isStore (o : Oper) : Bool :=
  match o.op with
  | .store _ _ _ => true
  | _ => false
def anyStore : List Oper → Bool
  | [] => false
  | o :: l => isStore o || anyStore l
/-- All that is waited for, directly or not: 'fr' still to be looked at. -/
def clo (ops : List Oper) : Nat → List Nat → List Nat → List Nat
  | 0, _, acc => acc
  | _ + 1, [], acc => acc
  | f + 1, j :: fr, acc => bif acc.any fun k => Nat.beq k j then clo ops f fr acc else match nth ops j with
    | some o => clo ops f (aftOf o ++ fr) (j :: acc)
    | none => clo ops f fr acc
def ancOf (ops : List Oper) (o : Oper) : List Nat := bif anyAlloc ops || anyStore ops then clo ops 4000 (aftOf o) [] else []
def allocsOf (ops : List Oper) : List Nat → List Nat
  | [] => []
  | k :: l => match nth ops k with
    | some o => bif isAlloc o then k :: allocsOf ops l else allocsOf ops l
    | none => allocsOf ops l

/-- A store that has been carried out: which operation, which block, what it holds then. -/
structure Wr where
  k : Nat
  x : Nat
  c : Blk
/-- The memory that an operation may see: of the stores, those that it waits for have been carried out; the blocks of others are not seen. -/
def seen (anc : List Nat) (hp : T Blk) : List Wr → T Blk
  | [] => hp
  | r :: l => (seen anc hp l).set r.x (bif anc.any fun k => Nat.beq k r.k then some r.c else none)

def putT (nt : Nat) (d : Option Tmp) (s : Sv) (tm : T Sv) : Option (T Sv) :=
  match d with
  | none => some tm
  | some d => bif Nat.blt d nt then some (tm.set d (some s)) else none

/-- The head, in an order that the waits allow; 'top': above all blocks that the head may make; block i is made by operation i. -/
def headRun (C : Cx) (ih : FI → List Sv → St → Tree (Sv × St)) (nt : Nat) (ops : List Oper) (st : St) (top : Nat) : List Nat → T Sv → T Blk → List Wr → PC → Tree (T Sv × T Blk × List Wr × PC)
  | [], tm, bk, wl, pc => .leaf (tm, bk, wl, pc)
  | i :: l, tm, bk, wl, pc => match nth ops i with
    | some o => match o.guard, aop C tm o.op with
      | none, some ar => match putT nt o.dst (ar.sv (st.nx + i)) tm with
        | some tm' => headRun C ih nt ops st top l tm' (bk.set i (some ar.blk)) wl pc
        | none => .fail
      | g, _ => match blksOf bk st.nx (allocsOf ops (ancOf ops o)) with
        | some bl => match g, o.op with
          | none, .store t x v => match storeB C tm (seen (ancOf ops o) (hpAdd st.hp bl) wl) st.lo t x v, putT nt o.dst .undef tm with
            | some r, some tm' => bif (wl.any fun q => Nat.beq q.x r.1) || !Nat.blt r.1 65535 then .fail else headRun C ih nt ops st top l tm' bk (⟨i, r.1, r.2⟩ :: wl) pc
            | _, _ => .fail
          | _, _ => (headX C ih ops o ⟨tm, seen (ancOf ops o) (hpAdd st.hp bl) wl, top, st.lo, pc⟩).bind fun r => match putT nt o.dst r.1 tm with
            | some tm' => headRun C ih nt ops st top l tm' bk wl r.2
            | none => .fail
        | none => .fail
    | none => .fail

def tmpsOf : List Operand → List Tmp
  | [] => []
  | .tmp t :: l => t :: tmpsOf l
  | _ :: l => tmpsOf l
def slotsOf (ops : List Oper) (o : Oper) : List Tmp :=
  match o.guard with
  | some (g, _) => match gslot ops g with
    | some d => d :: tmpsOf o.op.operands.toList
    | none => tmpsOf o.op.operands.toList
  | none => tmpsOf o.op.operands.toList

def isTail (o : Oper) : Bool :=
  match o.op with
  | .store _ _ _ => true
  | .assign _ => true
  | .call c => match c.callee with
    | .builtin .append => true
    | _ => false
  | _ => false
def isWrite (o : Oper) : Bool :=
  match o.op with
  | .assign _ => false
  | _ => isTail o
def headLen (p : Oper → Bool) : List Oper → Nat
  | [] => 0
  | o :: l => bif p o then 0 else headLen p l + 1
def ordA (n : Nat) : Nat → List Oper → List Nat
  | _, [] => []
  | i, o :: l => bif Nat.blt i n && isAlloc o && o.after.toList.isEmpty then i :: ordA n (i + 1) l else ordA n (i + 1) l
def ordB (n : Nat) : Nat → List Oper → List Nat
  | _, [] => []
  | i, o :: l => bif Nat.blt i n && !(isAlloc o && o.after.toList.isEmpty) then i :: ordB n (i + 1) l else ordB n (i + 1) l
def ordP (n : Nat) (ops : List Oper) : List Nat := ordA n 0 ops ++ ordB n 0 ops
def memB (l : List Nat) (i : Nat) : Bool := l.any fun k => Nat.beq k i
/-- Stores as early as may be. -/
def ordS (ops : List Oper) (base : List Nat) : List Nat → List Nat → List Nat
  | [], done => base.filter fun i => !memB done i
  | k :: l, done => match nth ops k with
    | some o => bif isStore o then
        let a := clo ops 4000 (aftOf o) []
        let new := (base.filter fun i => memB a i && !memB done i)
        new ++ bif memB new k || memB done k then ordS ops base l (new ++ done) else k :: ordS ops base l (k :: (new ++ done))
      else ordS ops base l done
    | none => ordS ops base l done
def ordOf (n : Nat) (ops : List Oper) : List Nat := bif anyStore ops && Nat.beq n (lenL' ops) then ordS ops (ordP n ops) (ordP n ops) [] else ordP n ops
where lenL' : List Oper → Nat
  | [] => 0
  | _ :: l => lenL' l + 1

def firstD (d : Nat) : Nat → List Oper → Option Nat
  | _, [] => none
  | i, o :: l => match o.dst with
    | some e => bif Nat.beq e d then some i else firstD d (i + 1) l
    | none => firstD d (i + 1) l
def natAll (p : Nat → Bool) : Nat → Bool
  | 0 => true
  | n + 1 => p n && natAll p n
def waitsB (ops : List Oper) (j i : Nat) : Bool :=
  match nth ops j with
  | some o => (aftOf o).any fun k => Nat.beq k i
  | none => false
def natAny (p : Nat → Bool) : Nat → Bool
  | 0 => false
  | n + 1 => p n || natAny p n
def optIs (o : Option Nat) (i : Nat) : Bool :=
  match o with
  | some j => Nat.beq j i
  | none => false
def lenL {α : Type} : List α → Nat
  | [] => 0
  | _ :: l => lenL l + 1
def ordGood (ops : List Oper) (n : Nat) : List Nat → List Nat → Bool
  | [], _ => true
  | i :: l, done => Nat.blt i n && !(done.any fun k => Nat.beq k i) && (match nth ops i with
    | some o => ((aftOf o).all fun j => done.any fun k => Nat.beq k j) && (!isStore o || done.all fun j => memB (ancOf ops o) j)
    | none => false) && ordGood ops n l (i :: done)
/-- The text's own part: slots apart; the tail's first operation waits for all of the head; each other one of the tail for the one before it; none of the tail for a later one; each slot that the head reads is not the head's, or of an operation that it waits for, or of one that waits for it. -/
def drawB (ops : List Oper) (n m : Nat) : Bool :=
  natAll (fun i => match nth ops i with
    | some o => (match o.dst with
      | some d => optIs (firstD d 0 ops) i
      | none => true) && (slotsOf ops o).all fun t => match firstD t 0 ops with
        | some k => Nat.ble n k || waitsB ops i k || waitsB ops k i || Nat.beq k i
        | none => true
    | none => false) n &&
  ordGood ops n (ordOf n ops) [] && natAll (fun i => (ordOf n ops).any fun k => Nat.beq k i) n &&
  (Nat.beq n m ||
    (natAll (fun i => natAny (fun j => Nat.blt i j && waitsB ops j i) (n + 1)) n && natAll (fun t => Nat.ble t n || waitsB ops t (t - 1)) m && Nat.blt n m &&
      natAll (fun t => Nat.blt t n || (match nth ops t with
        | some o => (aftOf o).all fun k => Nat.blt k t
        | none => false)) m))
/-- How long the head is. -/
def cutOf (ops : List Oper) : Option Nat :=
  bif drawB ops (headLen isTail ops) (lenL ops) then some (headLen isTail ops)
  else bif drawB ops (headLen isWrite ops) (lenL ops) then some (headLen isWrite ops) else bif drawB ops (lenL ops) (lenL ops) then some (lenL ops) else none

def dropL {α : Type} : Nat → List α → List α
  | 0, l => l
  | _, [] => []
  | n + 1, _ :: l => dropL n l

/-- All blocks of the head. -/
def blksAll (bk : T Blk) (nx : Nat) : Nat → List (Nat × Blk)
  | 0 => []
  | n + 1 => match bk.get n with
    | some b => (nx + n, b) :: blksAll bk nx n
    | none => blksAll bk nx n

def wrAll (hp : T Blk) : List Wr → T Blk
  | [] => hp
  | r :: l => (wrAll hp l).set r.x (some r.c)

def drawX (C : Cx) : Drawer := fun ih nt ops st =>
  match cutOf ops with
  | some n => bif Nat.ble (st.nx + n) 65000 then
      (headRun C ih nt ops st (st.nx + n) (ordOf n ops) st.tm .nil [] st.pc).bind fun r =>
        seqOps C ih nt ops (dropL n ops) ⟨r.1, wrAll (hpAdd st.hp (bif anyAlloc ops then blksAll r.2.1 st.nx n else [])) r.2.2.1, st.nx + n, st.lo, r.2.2.2⟩
    else .fail
  | none => .fail

end
end Go.Ex


namespace Go.Ex
open Go Go.RowKit
noncomputable section

theorem Calls.exists {P : Program} {f : FuncId} {args : Array Value} {w : World} {R : Ending → World → Prop} (h : Calls P f args w R) : ∃ e w', R e w' := by
  obtain ⟨e, w', _, hR, _⟩ := h []
  exact ⟨e, w', hR⟩

/-- An operation that hands back v and leaves all that there was as it was. -/
def QStep (P : Program) (o : Oper) (a : Act) (w : World) (v : Value) : Prop :=
  (execOp a.eval o).run P w = .ok (.value v) w ∨ ∃ f args, (execOp a.eval o).run P w = .ok (.enter f args) w ∧ Calls P f args w fun e w' => e = .returned v ∧ Below w.heap.size w w'

theorem QStep.wp {P : Program} {o : Oper} {a : Act} {w : World} {v : Value} (h : QStep P o a w v) : ∃ S : World → Prop, (∃ w', S w') ∧ (∀ w', S w' → Below w.heap.size w w') ∧
    ∀ (Q : Exit → Act → World → Prop) (K : Act → World → Prop), (∀ w', S w' → K (a.put o.dst v) w') → o.wp P a w K Q := by
  rcases h with h | ⟨f, args, h, hc⟩
  · refine ⟨fun w' => w' = w, ⟨w, rfl⟩, fun w' e => by subst e; exact Below.refl _ _, fun Q K hK => ?_⟩
    unfold Oper.wp; rw [h]; exact hK w rfl
  · refine ⟨fun w' => Below w.heap.size w w', ?_, fun _ h => h, fun Q K hK => ?_⟩
    · obtain ⟨e, w', _, hb⟩ := Calls.exists hc
      exact ⟨w', hb⟩
    · unfold Oper.wp; rw [h]
      refine hc.mono ?_
      rintro e w' ⟨rfl, hb⟩
      exact hK w' hb

theorem callQ_run {C : Cx} {P : Program} {η : Env} (hC : C.Ok P η) {ih : FI → List Sv → St → Tree (Sv × St)} (hih : CallOk P η ih) {f : FuncId} {args : List Sv} {st : St} {sv : Sv} {pc : PC} (hpc : st.pc.holds η)
    (h : (callQ C ih f args st).at_ η = some (sv, pc)) {E : Emb} {lo base : Nat} {w : World} {vs : List Value} (hH : HRel η E st.hp st.nx lo base w) (hv : denArgs η E args = some vs) :
    pc.holds η ∧ ∃ v, sv.den η E = some v ∧ ((callFunc f vs.toArray).run P w = .ok (.value v) w ∨ ∃ f' args', (callFunc f vs.toArray).run P w = .ok (.enter f' args') w ∧ Calls P f' args' w fun e w' => e = .returned v ∧ Below w.heap.size w w') := by
  unfold callQ at h
  split at h
  · rename_i g hg
    obtain ⟨hp1, hg1⟩ := hC.sm f g hg args st.pc sv pc h hpc
    obtain ⟨v, e1, e2⟩ := hg1 E vs w hv
    refine ⟨hp1, v, e1, ?_⟩
    rcases e2 with e2 | ⟨e2, e3⟩
    · exact .inl e2
    · exact .inr ⟨f, _, e2, e3⟩
  · split at h
    · rename_i g hg
      obtain ⟨hp1, hg1⟩ := hC.hs f g hg st.hp args st.pc sv pc h hpc
      obtain ⟨v, e1, e2⟩ := hg1 E vs _ _ _ w hH hv
      refine ⟨hp1, v, e1, ?_⟩
      rcases e2 with e2 | ⟨e2, e3⟩
      · exact .inl e2
      · exact .inr ⟨f, _, e2, e3⟩
    split at h
    · rename_i fi hfi
      have hF := hC.ft f fi hfi
      cases hq : fi.quiet with
      | false => rw [hq] at h; cases h
      | true =>
        rw [hq] at h
        obtain ⟨r1, h1, h2⟩ := Tree.at_bind h
        cases hb : below st.nx r1.1 with
        | false => rw [hb] at h2; cases h2
        | true =>
          rw [hb] at h2; cases h2
          have g3 := hih fi args { st with lo := st.nx } r1 h1 f hF hpc (Nat.le_refl _)
          have hH' : HRel η E st.hp st.nx st.nx w.heap.size w := ⟨hH.dom, hH.cell, hH.inj, (fun i B K hi hE => by rw [hH.free i hi] at hE; cases hE), hH.top, Nat.le_refl _, hH.free, hH.lim⟩
          have g4 := g3 E w.heap.size w w vs hH' (Below.refl _ _) hv
          obtain ⟨_, w1, v, E1, _, e1, e2, _, _, e5, _⟩ := Calls.exists g4
          rw [Sv.den_agree e2 hb] at e1
          refine ⟨e5, v, e1, .inr ⟨f, _, run_callFunc hF _ w, g4.mono ?_⟩⟩
          rintro e w' ⟨v', E', rfl, e1', e2', _, e4', _, _⟩
          rw [Sv.den_agree e2' hb, e1] at e1'
          cases e1'
          exact ⟨rfl, e4'⟩
    · cases h

theorem slots_sub (ops : List Oper) (o : Oper) : ∀ t ∈ tmpsOf o.op.operands.toList, t ∈ slotsOf ops o := by
  intro t ht
  unfold slotsOf
  split
  · split
    · exact List.mem_cons_of_mem _ ht
    · exact ht
  · exact ht
theorem mem_tmpsOf : ∀ {l : List Operand} {t : Tmp}, Operand.tmp t ∈ l → t ∈ tmpsOf l
  | x :: l, t, h => by
    cases h with
    | head => exact List.mem_cons_self ..
    | tail _ h =>
      have := mem_tmpsOf h
      cases x <;> simp only [tmpsOf] <;> first | exact List.mem_cons_of_mem _ this | exact this
theorem orel_of {η : Env} {E : Emb} {tm : T Sv} {a : Act} {ops : Array Operand} (h : ∀ t ∈ tmpsOf ops.toList, ∀ s, tm.get t = some s → ∃ v, a.tmps[t]? = some v ∧ s.den η E = some v) : ∀ x ∈ ops, ORel η E tm a x := by
  intro x hx sv hsv
  cases x with
  | tmp t =>
    obtain ⟨v, h1, h2⟩ := h t (mem_tmpsOf (by simpa using hx)) sv hsv
    simp only [Act.eval, Array.getD_eq_getD_getElem?, h1, Option.getD_some]; exact h2
  | const v => exact litV_den hsv
  | func f => cases hsv; rfl
  | global g => cases hsv

theorem quietX_run {C : Cx} {P : Program} {η : Env} (hC : C.Ok P η) {ih : FI → List Sv → St → Tree (Sv × St)} (hih : CallOk P η ih) {o : Oper} {st : St} {sv : Sv} {pc : PC} (hpc : st.pc.holds η)
    (h : (quietX C ih o.op st).at_ η = some (sv, pc)) {E : Emb} {lo base : Nat} {a : Act} {w : World} (hH : HRel η E st.hp st.nx lo base w) (hf : ∀ x ∈ o.op.operands, ORel η E st.tm a x) :
    pc.holds η ∧ ∃ v, sv.den η E = some v ∧ QStep P o a w v := by
  have plain : (qop C st.hp st.tm st.pc o.op).at_ η = some (sv, pc) → pc.holds η ∧ ∃ v, sv.den η E = some v ∧ QStep P o a w v := fun h => by
    obtain ⟨g1, v, g2, g3⟩ := qop_run hC hH hpc hf h
    exact ⟨g1, v, g2, .inl g3⟩
  unfold quietX at h
  split at h
  · rename_i c ho
    split at h
    · rename_i fx hcal
      split at h
      · rename_i f caps args hfx hargs
        have ef := hf fx (by rw [ho]; simp [Op.operands, Call.operands, hcal]) _ hfx
        simp only [Sv.den, Sc.den, Option.map_eq_some_iff] at ef
        obtain ⟨l, hl, ef⟩ := ef
        have ea := evL_den (fun x hx => hf x (by rw [ho]; simp only [Op.operands, Call.operands, hcal]; simp at hx ⊢; exact .inr hx)) hargs
        have eall := denArgs_append ea (capS_den (η := η) hl)
        have hexec : (execOp a.eval o).run P w = (callFunc f (List.map a.eval c.args.toList ++ l).toArray).run P w := by
          have e1 : c.args.map a.eval = (List.map a.eval c.args.toList).toArray := by rw [← Array.toList_map, Array.toArray_toList]
          simp only [execOp, ho, resolve, hcal, ← ef, Deferred.ofValue, Sem.run_bind, Sem.run_pure, Result.andThen_ok, invoke, e1]
          simp
        obtain ⟨g1, v, g2, g3⟩ := callQ_run hC hih hpc h hH eall
        refine ⟨g1, v, g2, ?_⟩
        unfold QStep
        rw [hexec]
        exact g3
      · cases h
    · exact plain (by rw [ho]; exact h)
  · exact plain h

theorem headX_run {C : Cx} {P : Program} {η : Env} (hC : C.Ok P η) {ih : FI → List Sv → St → Tree (Sv × St)} (hih : CallOk P η ih) {ops : Array Oper} {o : Oper} {st : St} {sv : Sv} {pc : PC} (hpc : st.pc.holds η)
    (h : (headX C ih ops.toList o st).at_ η = some (sv, pc)) {E : Emb} {lo base : Nat} {a : Act} {w : World} (hH : HRel η E st.hp st.nx lo base w) (hs : ∀ t ∈ slotsOf ops.toList o, ∀ s, st.tm.get t = some s → ∃ v, a.tmps[t]? = some v ∧ s.den η E = some v) {i : Nat} (hi : ops[i]? = some o) :
    pc.holds η ∧ ∃ v, sv.den η E = some v ∧ ∃ S : World → Prop, (∃ w', S w') ∧ (∀ w', S w' → Below w.heap.size w w') ∧
      ∀ (Q : Exit → Act → World → Prop) (K : Act → World → Prop), (∀ w', S w' → K (a.put o.dst v) w') → wpOp P ops Q i K a w := by
  have hf := orel_of (fun t ht => hs t (slots_sub _ _ t ht))
  unfold headX at h
  split at h
  · rename_i hg
    obtain ⟨g1, v, g2, g3⟩ := quietX_run hC hih hpc h hH hf
    obtain ⟨S, s1, s2, s3⟩ := g3.wp
    refine ⟨g1, v, g2, S, s1, s2, fun Q K hK => ?_⟩
    unfold wpOp
    simp only [hi, Region.wanted, hg, if_true]
    exact .inl (s3 Q K hK)
  · rename_i j want hg
    split at h
    · rename_i d hd
      split at h
      · rename_i bx hb
        obtain ⟨pc1, hp1, h1⟩ := at_branch hC.D hpc h
        obtain ⟨v, hv1, hv2⟩ := hs d (by unfold slotsOf; rw [hg]; simp only [hd]; exact List.mem_cons_self ..) _ hb
        simp only [Sv.den, Sc.den, Option.some.injEq] at hv2
        subst hv2
        have hy : yielded ops a.tmps j = some (bx.den η) := by
          unfold gslot at hd
          rw [nth_eq, Array.getElem?_toList] at hd
          unfold yielded
          cases hoj : ops[j]? with
          | none => rw [hoj] at hd; cases hd
          | some oj =>
            rw [hoj] at hd
            simp only at hd
            simp [hd, hv1]
        have hwant : Region.wanted o (yielded ops a.tmps) = (bx.den η == want) := by
          simp only [Region.wanted, hg, hy]; rfl
        split at h1
        · rename_i he
          obtain ⟨g1, v, g2, g3⟩ := quietX_run hC hih (st := { st with pc := pc1 }) hp1 h1 hH hf
          obtain ⟨S, s1, s2, s3⟩ := g3.wp
          refine ⟨g1, v, g2, S, s1, s2, fun Q K hK => ?_⟩
          unfold wpOp
          simp only [hi, hwant, he, if_true]
          exact .inl (s3 Q K hK)
        · rename_i he
          cases h1
          refine ⟨hp1, undef, rfl, fun w' => w' = w, ⟨w, rfl⟩, fun w' e => by subst e; exact Below.refl _ _, fun Q K hK => ?_⟩
          unfold wpOp
          simp only [hi, hwant, he, Bool.false_eq_true, if_false]
          exact hK w rfl
      · rename_i hb
        cases h
        obtain ⟨v, hv1, hv2⟩ := hs d (by unfold slotsOf; rw [hg]; simp only [hd]; exact List.mem_cons_self ..) _ hb
        simp only [Sv.den, Option.some.injEq] at hv2
        subst hv2
        have hwant : Region.wanted o (yielded ops a.tmps) = false := wanted_undef hg hd hv1
        refine ⟨hpc, undef, rfl, fun w' => w' = w, ⟨w, rfl⟩, fun w' e => by subst e; exact Below.refl _ _, fun Q K hK => ?_⟩
        unfold wpOp
        simp only [hi, hwant, Bool.false_eq_true, if_false]
        exact hK w rfl
      · cases h
    · cases h

end
end Go.Ex


namespace Go.Ex
open Go Go.RowKit
noncomputable section

theorem hpAdd_sub {hp0 hp : T Blk} (h0 : ∀ i b, hp0.get i = some b → hp.get i = some b) (hlt : ∀ i b, hp.get i = some b → i < 65535) : ∀ {l : List (Nat × Blk)}, (∀ p ∈ l, hp.get p.1 = some p.2) → ∀ i b, (hpAdd hp0 l).get i = some b → hp.get i = some b
  | [], _, i, b, h => h0 i b h
  | p :: l, hl, i, b, h => by
    simp only [hpAdd] at h
    have hp1 := hl p (List.mem_cons_self ..)
    by_cases hpi : p.1 = i
    · subst hpi
      rw [T.get_set_same _ _ _ (hlt _ _ hp1)] at h
      cases h; exact hp1
    · rw [T.get_set_ne _ _ _ _ hpi] at h
      exact hpAdd_sub h0 hlt (fun q hq => hl q (List.mem_cons_of_mem _ hq)) i b h

theorem aftOf_mem {o : Oper} {j : Nat} : j ∈ aftOf o ↔ ∃ e ∈ o.after, Region.binds .any e = true ∧ e.on = j := by
  simp [aftOf, List.mem_map, List.mem_filter, and_assoc]

/-- Nothing is carried out ahead of what it waits for. -/
def Closed (ops : Array Oper) (L : Nat → Prop) : Prop := ∀ i o, L i → ops[i]? = some o → ∀ j ∈ aftOf o, L j

theorem clo_in {ops : Array Oper} {L : Nat → Prop} (hL : Closed ops L) : ∀ (f : Nat) (fr acc : List Nat), (∀ j ∈ fr, L j) → (∀ j ∈ acc, L j) → ∀ k ∈ clo ops.toList f fr acc, L k
  | 0, _, acc, _, ha, k, hk => ha k hk
  | _ + 1, [], acc, _, ha, k, hk => ha k hk
  | f + 1, j :: fr, acc, hf, ha, k, hk => by
    simp only [clo] at hk
    have hf' : ∀ m ∈ fr, L m := fun m hm => hf m (List.mem_cons_of_mem _ hm)
    cases hc : (acc.any fun k => Nat.beq k j) with
    | true => rw [hc] at hk; exact clo_in hL f fr acc hf' ha k hk
    | false =>
      rw [hc] at hk
      simp only [cond_false] at hk
      split at hk
      · rename_i o ho
        rw [nth_eq, Array.getElem?_toList] at ho
        have hj := hf j (List.mem_cons_self ..)
        refine clo_in hL f (aftOf o ++ fr) (j :: acc) (fun m hm => ?_) (fun m hm => ?_) k hk
        · rcases List.mem_append.1 hm with hm | hm
          · exact hL j o hj ho m hm
          · exact hf' m hm
        · cases hm with
          | head => exact hj
          | tail _ hm => exact ha m hm
      · exact clo_in hL f fr acc hf' ha k hk
theorem ancOf_in {ops : Array Oper} {L : Nat → Prop} (hL : Closed ops L) {o : Oper} (hj : ∀ j ∈ aftOf o, L j) : ∀ k ∈ ancOf ops.toList o, L k := by
  intro k hk
  unfold ancOf at hk
  cases ha : (anyAlloc ops.toList || anyStore ops.toList) with
  | true => rw [ha] at hk; exact clo_in hL 4000 _ [] hj (fun _ h => by cases h) k hk
  | false => rw [ha] at hk; cases hk
theorem allocsOf_in {ops : List Oper} : ∀ {l : List Nat} {k : Nat}, k ∈ allocsOf ops l → k ∈ l
  | [], k, h => by cases h
  | j :: l, k, h => by
    simp only [allocsOf] at h
    split at h
    · rename_i o _
      cases ha : isAlloc o with
      | true =>
        rw [ha] at h
        cases h with
        | head => exact List.mem_cons_self ..
        | tail _ h => exact List.mem_cons_of_mem _ (allocsOf_in h)
      | false => rw [ha] at h; exact List.mem_cons_of_mem _ (allocsOf_in h)
    · exact List.mem_cons_of_mem _ (allocsOf_in h)

theorem blksOf_mem {bk : T Blk} {nx : Nat} : ∀ {l : List Nat} {bl}, blksOf bk nx l = some bl → ∀ p ∈ bl, ∃ k ∈ l, ∃ b, bk.get k = some b ∧ p = (nx + k, b)
  | [], bl, h, p, hp => by cases h; cases hp
  | k :: l, bl, h, p, hp => by
    simp only [blksOf] at h
    split at h
    · rename_i b m h1 h2
      cases h
      cases hp with
      | head => exact ⟨k, List.mem_cons_self .., b, h1, rfl⟩
      | tail _ hp => obtain ⟨k', hk', r⟩ := blksOf_mem h2 p hp; exact ⟨k', List.mem_cons_of_mem _ hk', r⟩
    · cases h

/-- What the executor holds of a head: each operation's value, each operation's block, what each store does. -/
structure Held where
  v : Nat → Option Sv
  b : Nat → Option Blk
  w : Nat → Option (Nat × Blk)

/-- What holds of a frame and a world while a head is under way: 'L': the operations that have been carried out. -/
structure Inv (η : Env) (ops : Array Oper) (E0 : Emb) (nx0 top lo base nt : Nat) (w0 : World) (tm0 : T Sv) (hp0 : T Blk) (V : Held) (L : Nat → Prop) (E : Emb) (a : Act) (w : World) : Prop where
  ag : Agree E0 E nx0
  old : ∀ t s, tm0.get t = some s → (∀ i o, L i → ops[i]? = some o → o.dst ≠ some t) → ∃ v, a.tmps[t]? = some v ∧ s.den η E = some v
  rc : ∀ i o d, L i → ops[i]? = some o → o.dst = some d → ∃ s v, V.v i = some s ∧ a.tmps[d]? = some v ∧ s.den η E = some v
  hp : ∃ hp, (∀ i b, hp0.get i = some b → (∀ k c, L k → V.w k ≠ some (i, c)) → hp.get i = some b) ∧ (∀ i b, L i → V.b i = some b → (∀ k c, L k → V.w k ≠ some (nx0 + i, c)) → hp.get (nx0 + i) = some b) ∧
    (∀ k x c, L k → V.w k = some (x, c) → hp.get x = some c) ∧ HRel η E hp top lo base w
  fresh : ∀ j, ¬ L j → nx0 + j < top → E (nx0 + j) = none
  sz : a.tmps.size = nt
  df : a.defers = []
  bl : Below base w0 w

/-- What an operation sees of the memory is so wherever it may come. -/
def Sees (ops : Array Oper) (n nx0 : Nat) (hp0 : T Blk) (V : Held) (i : Nat) (o : Oper) (hp : T Blk) : Prop :=
  ∀ x b, hp.get x = some b → (∃ k ∈ ancOf ops.toList o, V.w k = some (x, b)) ∨
    ((hp0.get x = some b ∨ ∃ k ∈ ancOf ops.toList o, V.b k = some b ∧ x = nx0 + k) ∧ ∀ k ok c, k < n → ops[k]? = some ok → V.w k = some (x, c) → i ∈ ancOf ops.toList ok ∨ k = i)

/-- The executor's word for operation i. -/
structure Word (C : Cx) (η : Env) (ih : FI → List Sv → St → Tree (Sv × St)) (ops : Array Oper) (n nx0 top lo : Nat) (tm0 : T Sv) (hp0 : T Blk) (V : Held) (i : Nat) (o : Oper) (pc pc' : PC) : Prop where
  says : ∃ tm hpi s, V.v i = some s ∧
    (∀ t ∈ slotsOf ops.toList o, ∀ s, tm.get t = some s → (∃ k ok, k ∈ aftOf o ∧ ops[k]? = some ok ∧ ok.dst = some t ∧ V.v k = some s) ∨ (tm0.get t = some s ∧ ∀ k ok, k < n → ops[k]? = some ok → ok.dst = some t → i ∈ aftOf ok ∨ k = i)) ∧
    ((∃ ar, o.guard = none ∧ aop C tm o.op = some ar ∧ s = ar.sv (nx0 + i) ∧ V.b i = some ar.blk ∧ V.w i = none ∧ pc' = pc) ∨
     (Sees ops n nx0 hp0 V i o hpi ∧ (headX C ih ops.toList o ⟨tm, hpi, top, lo, pc⟩).at_ η = some (s, pc') ∧ V.b i = none ∧ V.w i = none) ∨
     (∃ t x v r, Sees ops n nx0 hp0 V i o hpi ∧ o.guard = none ∧ o.op = .store t x v ∧ storeB C tm hpi lo t x v = some r ∧ s = .undef ∧ V.b i = none ∧ V.w i = some r ∧ pc' = pc ∧ ∀ j y c, j < n → j ≠ i → V.w j = some (y, c) → y ≠ r.1))

theorem inv_step {C : Cx} {P : Program} {η : Env} (hC : C.Ok P η) {ih : FI → List Sv → St → Tree (Sv × St)} (hih : CallOk P η ih) {ops : Array Oper}
    {E0 : Emb} {n nx0 top lo base nt : Nat} {w0 : World} {tm0 : T Sv} {hp0 : T Blk} {V : Held} {L : Nat → Prop} {E : Emb} {a : Act} {w : World} (hI : Inv η ops E0 nx0 top lo base nt w0 tm0 hp0 V L E a w)
    (hL : Closed ops L) (hLn : ∀ i, L i → i < n) (hn : n ≤ ops.size) {i : Nat} (hiL : ¬ L i) (hit : nx0 + i < top) {o : Oper} (ho : ops[i]? = some o) (haL : ∀ j ∈ aftOf o, L j)
    (hne : ∀ d, o.dst = some d → ∀ j oj, L j → ops[j]? = some oj → oj.dst ≠ some d) (hd : ∀ d, o.dst = some d → d < nt) {pc pc' : PC} (hpc : pc.holds η) (hw : Word C η ih ops n nx0 top lo tm0 hp0 V i o pc pc') :
    pc'.holds η ∧ ∃ S : Act → World → Prop, (∃ a' w', S a' w') ∧ (∀ a' w', S a' w' → ∃ E', Inv η ops E0 nx0 top lo base nt w0 tm0 hp0 V (fun j => L j ∨ j = i) E' a' w') ∧
      ∀ (Q : Exit → Act → World → Prop) (K : Act → World → Prop), (∀ a' w', S a' w' → K a' w') → wpOp P ops Q i K a w := by
  obtain ⟨ag, old, rc, ⟨hp, hp1, hp2, hp3, hH⟩, fresh, sz, df, bl⟩ := hI
  obtain ⟨tm, hpi, s, hVi, hslots, hsay⟩ := hw.says
  have hs : ∀ t ∈ slotsOf ops.toList o, ∀ s, tm.get t = some s → ∃ v, a.tmps[t]? = some v ∧ s.den η E = some v := by
    intro t ht s hts
    rcases hslots t ht s hts with ⟨k, ok, hk, hok, hdk, hVk⟩ | ⟨h0, hold⟩
    · obtain ⟨s', v, e1, e2, e3⟩ := rc k ok t (haL k hk) hok hdk
      rw [hVk] at e1; cases e1
      exact ⟨v, e2, e3⟩
    · refine old t s h0 fun k ok hLk hok hdk => ?_
      rcases hold k ok (hLn k hLk) hok hdk with h | h
      · exact hiL (hL k ok hLk hok i h)
      · subst h; exact hiL hLk
  have hsees : Sees ops n nx0 hp0 V i o hpi → ∀ x b, hpi.get x = some b → hp.get x = some b := by
    intro hse x b hx
    rcases hse x b hx with ⟨k, hk, hw⟩ | ⟨hb, hno⟩
    · exact hp3 k x b (ancOf_in hL haL k hk) hw
    · have hno' : ∀ k c, L k → V.w k ≠ some (x, c) := fun k c hk hwk => by
        have hkn := hLn k hk
        have hks : k < ops.size := by omega
        rcases hno k ops[k] c hkn (Array.getElem?_eq_getElem hks) hwk with h | h
        · exact hiL (ancOf_in hL (hL k _ hk (Array.getElem?_eq_getElem hks)) i h)
        · subst h; exact hiL hk
      rcases hb with hb | ⟨k, hk, hb, rfl⟩
      · exact hp1 x b hb hno'
      · exact hp2 k b (ancOf_in hL haL k hk) hb hno'
  have oldput : ∀ {E' : Emb} v, E.le E' → ∀ t s, tm0.get t = some s → (∀ k ok, (L k ∨ k = i) → ops[k]? = some ok → ok.dst ≠ some t) → ∃ u, (a.put o.dst v).tmps[t]? = some u ∧ s.den η E' = some u := by
    intro E' v hle t s hts hnot
    obtain ⟨u, h1, h2⟩ := old t s hts fun k ok hk hok => hnot k ok (.inl hk) hok
    refine ⟨u, ?_, Sv.den_mono hle h2⟩
    cases hod : o.dst with
    | none => exact h1
    | some d =>
      have : d ≠ t := fun e => by subst e; exact hnot i o (.inr rfl) ho hod
      simp [Act.put, Array.getElem?_setIfInBounds_ne this, h1]
  have rcput : ∀ {E' : Emb} v, E.le E' → s.den η E' = some v → ∀ j oj d, (L j ∨ j = i) → ops[j]? = some oj → oj.dst = some d → ∃ s' u, V.v j = some s' ∧ (a.put o.dst v).tmps[d]? = some u ∧ s'.den η E' = some u := by
    intro E' v hle hv j oj d hj hoj hdj
    rcases hj with hj | rfl
    · obtain ⟨s', u, e1, e2, e3⟩ := rc j oj d hj hoj hdj
      refine ⟨s', u, e1, ?_, Sv.den_mono hle e3⟩
      cases hod : o.dst with
      | none => exact e2
      | some e =>
        have : e ≠ d := fun he => by subst he; exact hne e hod j oj hj hoj hdj
        simp [Act.put, Array.getElem?_setIfInBounds_ne this, e2]
    · have : oj = o := Option.some.inj (hoj.symm.trans ho)
      subst this
      have hlt : d < a.tmps.size := by rw [sz]; exact hd d hdj
      exact ⟨s, v, hVi, by simp [Act.put, hdj, hlt], hv⟩
  have szput : ∀ v, (a.put o.dst v).tmps.size = nt := fun v => by
    cases o.dst with
    | none => exact sz
    | some d => simp [Act.put, sz]
  have dfput : ∀ v, (a.put o.dst v).defers = [] := fun v => by
    cases o.dst with
    | none => exact df
    | some d => exact df
  have frput : ∀ j, ¬ (L j ∨ j = i) → nx0 + j < top → E (nx0 + j) = none := fun j hj hjt => fresh j (fun h => hj (.inl h)) hjt
  rcases hsay with ⟨ar, hg, har, rfl, hVb, hVw, rfl⟩ | ⟨hse, hx, hVb, hVw⟩ | ⟨t, x, v, r, hse, hg, hop, hst, rfl, hVb, hVw, rfl, huq⟩
  · -- a new block
    obtain ⟨obj, v, r1, r2⟩ := aop_run hC (w := w) (orel_of fun t ht => hs t (slots_sub _ _ t ht)) har
    have hEn : E (nx0 + i) = none := fresh i hiL hit
    obtain ⟨r3, r4⟩ := r2 (nx0 + i) hEn
    have hle := Emb.le_set (x := (w.heap.size, ar.K)) hEn
    have hnone : ∀ b, hp.get (nx0 + i) ≠ some b := fun b h => by obtain ⟨B, K, hE, _⟩ := hH.cell _ _ h; rw [hEn] at hE; cases hE
    have hkeep : ∀ k b, hp.get k = some b → (hp.set (nx0 + i) (some ar.blk)).get k = some b := fun k b h => by
      rw [T.get_set_ne _ _ _ _ (fun e => by subst e; exact hnone b h)]; exact h
    have hH' := hH.alloc (o := obj) (b := ar.blk) (K := ar.K) (n := nx0 + i) (m := top) hEn hit (Nat.le_refl _) hH.lim hH.free r3
    have hwk : ∀ k x c, (L k ∨ k = i) → V.w k = some (x, c) → L k := fun k x c hk h => by
      rcases hk with hk | rfl
      · exact hk
      · rw [hVw] at h; cases h
    refine ⟨hpc, fun a' w' => a' = a.put o.dst v ∧ w' = w.alloc obj, ⟨_, _, rfl, rfl⟩, ?_, ?_⟩
    · rintro a' w' ⟨rfl, rfl⟩
      refine ⟨E.set (nx0 + i) (w.heap.size, ar.K), fun k hk => (Emb.set_ne _ _ (by omega)).trans (ag k hk), oldput v hle, rcput v hle r4, ⟨hp.set (nx0 + i) (some ar.blk), ?_, ?_, ?_, hH'⟩, ?_, szput v, dfput v, bl.alloc hH.bot _⟩
      · exact fun k b h hno => hkeep k b (hp1 k b h fun j c hj => hno j c (.inl hj))
      · intro j b hj hb hno
        rcases hj with hj | rfl
        · exact hkeep _ _ (hp2 j b hj hb fun k c hk => hno k c (.inl hk))
        · rw [hVb] at hb; cases hb
          exact T.get_set_same _ _ _ (by have := hH.lim; omega)
      · exact fun k x c hk h => hkeep x c (hp3 k x c (hwk k x c hk h) h)
      · intro j hj hjt
        rw [Emb.set_ne _ _ (by intro e; exact hj (.inr (by omega)))]
        exact fresh j (fun h => hj (.inl h)) hjt
    · intro Q K hK
      unfold wpOp
      simp only [ho, Region.wanted, hg, if_true]
      exact .inl (wp_value r1 (hK _ _ ⟨rfl, rfl⟩))
  · have hHi : HRel η E hpi top lo base w := hH.sub (hsees hse)
    obtain ⟨g1, v, g2, S, s1, s2, s3⟩ := headX_run hC hih (st := ⟨tm, hpi, top, lo, pc⟩) hpc hx hHi hs ho
    refine ⟨g1, fun a' w' => a' = a.put o.dst v ∧ S w', ?_, ?_, ?_⟩
    · obtain ⟨w', hw'⟩ := s1; exact ⟨_, w', rfl, hw'⟩
    · rintro a' w' ⟨rfl, hw'⟩
      have hb := s2 w' hw'
      refine ⟨E, ag, oldput v (Emb.le.refl _), rcput v (Emb.le.refl _) g2, ⟨hp, fun k b h hno => hp1 k b h fun j c hj => hno j c (.inl hj), ?_, ?_, hH.below hb⟩, frput, szput v, dfput v, bl.trans (hb.mono hH.bot)⟩
      · intro j b hj hbj hno
        rcases hj with hj | rfl
        · exact hp2 j b hj hbj fun k c hk => hno k c (.inl hk)
        · rw [hVb] at hbj; cases hbj
      · intro k x c hk h
        rcases hk with hk | rfl
        · exact hp3 k x c hk h
        · rw [hVw] at h; cases h
    · intro Q K hK
      exact s3 Q K fun w' hw' => hK _ _ ⟨rfl, hw'⟩
  · -- a store
    have hsx := storeB_sub (hsees hse) hst
    obtain ⟨w', r1, r2, r3⟩ := storeX_run hC hH bl hop (orel_of fun t ht => hs t (slots_sub _ _ t ht)) hsx
    obtain ⟨b0, hb0⟩ := storeB_get hst
    have hb0' := hsees hse _ _ hb0
    have hlt : r.1 < 65535 := by have := hH.dom _ _ hb0'; have := hH.lim; omega
    refine ⟨hpc, fun a' w'' => a' = a.put o.dst undef ∧ w'' = w', ⟨_, _, rfl, rfl⟩, ?_, ?_⟩
    · rintro a' w'' ⟨rfl, rfl⟩
      refine ⟨E, ag, oldput undef (Emb.le.refl _), rcput undef (Emb.le.refl _) rfl, ⟨hp.set r.1 (some r.2), ?_, ?_, ?_, r2⟩, frput, szput undef, dfput undef, r3⟩
      · intro k b h hno
        have hne : r.1 ≠ k := fun e => by subst e; exact hno i r.2 (.inr rfl) hVw
        rw [T.get_set_ne _ _ _ _ hne]
        exact hp1 k b h fun j c hj => hno j c (.inl hj)
      · intro j b hj hbj hno
        rcases hj with hj | rfl
        · have hne : r.1 ≠ nx0 + j := fun e => hno i r.2 (.inr rfl) (by rw [hVw, ← e])
          rw [T.get_set_ne _ _ _ _ hne]
          exact hp2 j b hj hbj fun k c hk => hno k c (.inl hk)
        · rw [hVb] at hbj; cases hbj
      · intro k y c hk h
        rcases hk with hk | rfl
        · have hki : k ≠ i := fun e => by subst e; exact hiL hk
          have hne := huq k y c (hLn k hk) hki h
          rw [T.get_set_ne _ _ _ _ (Ne.symm hne)]
          exact hp3 k y c hk h
        · rw [hVw] at h
          cases h
          exact T.get_set_same _ _ _ hlt
    · intro Q K hK
      unfold wpOp
      simp only [ho, Region.wanted, hg, if_true]
      exact .inl (wp_skip' r1 (hK _ _ ⟨rfl, rfl⟩))

end
end Go.Ex


namespace Go.Ex
open Go Go.RowKit
noncomputable section

/-- What the text of a region is known to be like. -/
structure DrawFacts (ops : Array Oper) (n : Nat) : Prop where
  uniq : ∀ i j oi oj d, i < n → j < n → ops[i]? = some oi → ops[j]? = some oj → oi.dst = some d → oj.dst = some d → i = j
  slot : ∀ i o t, i < n → ops[i]? = some o → t ∈ slotsOf ops.toList o → ∀ k ok, k < n → ops[k]? = some ok → ok.dst = some t → k ∈ aftOf o ∨ i ∈ aftOf ok ∨ k = i
  le : n ≤ ops.size
  ord : ordGood ops.toList n (ordOf n ops.toList) [] = true
  all : ∀ i, i < n → i ∈ ordOf n ops.toList
  tail : n = ops.size ∨ (Region.sinkB .any ops n = true ∧ Region.chainB .any ops n = true ∧ n < ops.size ∧ ∀ t o, n ≤ t → ops[t]? = some o → ∀ j ∈ aftOf o, j < t)

theorem any_mem {l : List Nat} {i : Nat} : (l.any fun k => Nat.beq k i) = true ↔ i ∈ l := by
  rw [List.any_eq_true]
  exact ⟨fun ⟨k, hk, h⟩ => by rw [← Nat.eq_of_beq_eq_true h]; exact hk, fun h => ⟨i, h, by simp⟩⟩

theorem ordGood_cons {ops : Array Oper} {n i : Nat} {l done : List Nat} (h : ordGood ops.toList n (i :: l) done = true) : i < n ∧ i ∉ done ∧ (∃ o, ops[i]? = some o ∧ (∀ j ∈ aftOf o, j ∈ done) ∧ (isStore o = true → ∀ j ∈ done, j ∈ ancOf ops.toList o)) ∧ ordGood ops.toList n l (i :: done) = true := by
  simp only [ordGood, Bool.and_eq_true] at h
  obtain ⟨⟨⟨h1, h2⟩, h3⟩, h4⟩ := h
  refine ⟨Nat.le_of_ble_eq_true h1, fun hm => ?_, ?_, h4⟩
  · have := any_mem.2 hm
    rw [this] at h2; cases h2
  · split at h3
    · rename_i o ho
      rw [nth_eq, Array.getElem?_toList] at ho
      simp only [Bool.and_eq_true, Bool.or_eq_true] at h3
      refine ⟨o, ho, fun j hj => any_mem.1 (List.all_eq_true.1 h3.1 j hj), fun hs j hj => ?_⟩
      rcases h3.2 with h | h
      · rw [hs] at h; cases h
      · exact any_mem.1 (List.all_eq_true.1 h j hj)
    · cases h3

theorem ord_first {ops : Array Oper} {n : Nat} {S : Nat → Prop} : ∀ (l done : List Nat), ordGood ops.toList n l done = true → (∀ k ∈ done, S k) → (∃ i ∈ l, ¬ S i) → ∃ i o, i ∈ l ∧ ¬ S i ∧ ops[i]? = some o ∧ ∀ j ∈ aftOf o, S j
  | [], _, _, _, ⟨i, hi, _⟩ => by cases hi
  | i :: l, done, h, hS, ⟨k, hk, hkS⟩ => by
    obtain ⟨_, _, ⟨o, ho, ha, _⟩, h4⟩ := ordGood_cons h
    by_cases hSi : S i
    · have hk' : k ∈ l := by
        cases hk with
        | head => exact absurd hSi hkS
        | tail _ hk => exact hk
      obtain ⟨m, om, q1, q2, q3, q4⟩ := ord_first l (i :: done) h4 (fun j hj => by
        cases hj with
        | head => exact hSi
        | tail _ hj => exact hS j hj) ⟨k, hk', hkS⟩
      exact ⟨m, om, List.mem_cons_of_mem _ q1, q2, q3, q4⟩
    · exact ⟨i, o, List.mem_cons_self .., hSi, ho, fun j hj => hS j (ha j hj)⟩

theorem ord_aft {ops : Array Oper} {n : Nat} : ∀ (l done : List Nat), ordGood ops.toList n l done = true → (∀ k ∈ done, k < n) → ∀ i ∈ l, ∀ o, ops[i]? = some o → ∀ j ∈ aftOf o, j < n
  | [], _, _, _, i, hi, _, _, _, _ => by cases hi
  | k :: l, done, h, hd, i, hi, o, ho, j, hj => by
    obtain ⟨h1, _, ⟨ok, hok, ha, _⟩, h4⟩ := ordGood_cons h
    cases hi with
    | head =>
      have : ok = o := Option.some.inj (hok.symm.trans ho)
      subst this
      exact hd j (ha j hj)
    | tail _ hi => exact ord_aft l (k :: done) h4 (fun m hm => by
        cases hm with
        | head => exact h1
        | tail _ hm => exact hd m hm) i hi o ho j hj

def Held.set (V : Held) (i : Nat) (s : Sv) (b : Option Blk) (w : Option (Nat × Blk)) : Held := ⟨fun k => if k = i then some s else V.v k, fun k => if k = i then b else V.b k, fun k => if k = i then w else V.w k⟩

theorem Inv.mono {η : Env} {ops : Array Oper} {E0 : Emb} {nx0 top lo base nt : Nat} {w0 : World} {tm0 : T Sv} {hp0 : T Blk} {V V' : Held} {L : Nat → Prop} {E : Emb} {a : Act} {w : World} (h : Inv η ops E0 nx0 top lo base nt w0 tm0 hp0 V L E a w)
    (hV : ∀ k, L k → V'.v k = V.v k ∧ V'.b k = V.b k ∧ V'.w k = V.w k) : Inv η ops E0 nx0 top lo base nt w0 tm0 hp0 V' L E a w := by
  obtain ⟨ag, old, rc, ⟨hp, hp1, hp2, hp3, hH⟩, fresh, sz, df, bl⟩ := h
  refine ⟨ag, old, fun i o d hL ho hd => ?_, ⟨hp, fun i b h hno => hp1 i b h fun k c hk => ?_, fun i b hL hb hno => hp2 i b hL ?_ fun k c hk => ?_, fun k x c hk hw => ?_, hH⟩, fresh, sz, df, bl⟩
  · rw [(hV i hL).1]; exact rc i o d hL ho hd
  · have := hno k c hk; rwa [(hV k hk).2.2] at this
  · rw [← (hV i hL).2.1]; exact hb
  · have := hno k c hk; rwa [(hV k hk).2.2] at this
  · rw [(hV k hk).2.2] at hw; exact hp3 k x c hk hw

/-- A word about an operation that is behind stays so when the next one is gone through. -/
theorem Word.mono {C : Cx} {η : Env} {ih : FI → List Sv → St → Tree (Sv × St)} {ops : Array Oper} {n nx0 top lo : Nat} {tm0 : T Sv} {hp0 : T Blk} {V : Held} {done : List Nat} {j i : Nat} {oj o : Oper} {pc pc' : PC} {s : Sv} {b : Option Blk} {wr : Option (Nat × Blk)}
    (h : Word C η ih ops n nx0 top lo tm0 hp0 V j oj pc pc') (hj : j ∈ done) (hc : Closed ops (· ∈ done)) (hi : i ∉ done) (hoj : ops[j]? = some oj) (ho : ops[i]? = some o)
    (hw : ∀ x c, wr = some (x, c) → j ∈ ancOf ops.toList o ∧ ∀ r, V.w j = some r → x ≠ r.1) : Word C η ih ops n nx0 top lo tm0 hp0 (V.set i s b wr) j oj pc pc' := by
  obtain ⟨tm, hpi, sv, h1, h2, h3⟩ := h.says
  have ha : ∀ k ∈ aftOf oj, k ∈ done := hc j oj hj hoj
  have hne : ∀ k, k ∈ done → k ≠ i := fun k hk e => by subst e; exact hi hk
  have hji := hne j hj
  have hs : Sees ops n nx0 hp0 V j oj hpi → Sees ops n nx0 hp0 (V.set i s b wr) j oj hpi := by
    intro hse x c hx
    rcases hse x c hx with ⟨k, hk, hwk⟩ | ⟨hb, hno⟩
    · have := hne k (ancOf_in hc ha k hk)
      exact .inl ⟨k, hk, by simp [Held.set, this, hwk]⟩
    · refine .inr ⟨?_, fun k ok d hk hok hwk => ?_⟩
      · rcases hb with hb | ⟨k, hk, hb, hxe⟩
        · exact .inl hb
        · have := hne k (ancOf_in hc ha k hk)
          exact .inr ⟨k, hk, by simp [Held.set, this, hb], hxe⟩
      · by_cases hki : k = i
        · subst hki
          have : ok = o := Option.some.inj (hok.symm.trans ho)
          subst this
          simp only [Held.set, if_true] at hwk
          exact .inl (hw x d hwk).1
        · simp only [Held.set, hki, if_false] at hwk
          exact hno k ok d hk hok hwk
  refine ⟨tm, hpi, sv, by simp [Held.set, hji, h1], fun t ht x hx => ?_, ?_⟩
  · rcases h2 t ht x hx with ⟨k, ok, q1, q2, q3, q4⟩ | q
    · have := hne k (ha k q1)
      exact .inl ⟨k, ok, q1, q2, q3, by simp [Held.set, this, q4]⟩
    · exact .inr q
  · rcases h3 with ⟨ar, q1, q2, q3, q4, q5, q6⟩ | ⟨q1, q2, q3, q4⟩ | ⟨t, x, v, r, q1, q2, q3, q4, q5, q6, q7, q8, q9⟩
    · exact .inl ⟨ar, q1, q2, q3, by simp [Held.set, hji, q4], by simp [Held.set, hji, q5], q6⟩
    · exact .inr (.inl ⟨hs q1, q2, by simp [Held.set, hji, q3], by simp [Held.set, hji, q4]⟩)
    · refine .inr (.inr ⟨t, x, v, r, hs q1, q2, q3, q4, q5, by simp [Held.set, hji, q6], by simp [Held.set, hji, q7], q8, fun k y c hk hkj hwk => ?_⟩)
      by_cases hki : k = i
      · subst hki
        simp only [Held.set, if_true] at hwk
        exact (hw y c hwk).2 r q7
      · simp only [Held.set, hki, if_false] at hwk
        exact q9 k y c hk hkj hwk

theorem putT_spec {nt : Nat} {d : Option Tmp} {s : Sv} {tm tm' : T Sv} (h : putT nt d s tm = some tm') (hnt : nt ≤ 60000) : (∀ e, d = some e → e < nt) ∧ ∀ t x, tm'.get t = some x → (d = some t ∧ x = s) ∨ (d ≠ some t ∧ tm.get t = some x) := by
  cases d with
  | none => cases h; exact ⟨fun e he => (by cases he), fun t x hx => .inr ⟨by simp, hx⟩⟩
  | some d =>
    simp only [putT] at h
    cases hb : Nat.blt d nt with
    | false => rw [hb] at h; cases h
    | true =>
      rw [hb] at h; cases h
      have hb : d < nt := Nat.le_of_ble_eq_true hb
      have hb' : d < 65535 := Nat.lt_of_lt_of_le hb (by omega)
      refine ⟨fun e he => (by cases he; exact hb), fun t x hx => ?_⟩
      by_cases hdt : d = t
      · subst hdt
        rw [T.get_set_same _ _ _ hb'] at hx
        cases hx; exact .inl ⟨rfl, rfl⟩
      · rw [T.get_set_ne _ _ _ _ hdt] at hx
        exact .inr ⟨by simpa using hdt, hx⟩

/-- What is known while the executor goes through a head: 'done' is behind it. -/
structure Run (C : Cx) (η : Env) (ih : FI → List Sv → St → Tree (Sv × St)) (ops : Array Oper) (n nt top : Nat) (st : St) (V : Held) (done : List Nat) (tm : T Sv) (bk : T Blk) (wl : List Wr) : Prop where
  tm : ∀ t s, tm.get t = some s → (∃ k ok, k ∈ done ∧ ops[k]? = some ok ∧ ok.dst = some t ∧ V.v k = some s) ∨ (st.tm.get t = some s ∧ ∀ k ok, k ∈ done → ops[k]? = some ok → ok.dst ≠ some t)
  bk : ∀ k b, bk.get k = some b → k ∈ done ∧ V.b k = some b
  wk : ∀ r ∈ wl, r.k ∈ done ∧ V.w r.k = some (r.x, r.c) ∧ r.x < 65535
  wr : ∀ k x c, V.w k = some (x, c) → k ∈ done ∧ ∃ r ∈ wl, r.k = k ∧ r.x = x ∧ r.c = c
  word : ∀ i ∈ done, ∃ o pc pc', ops[i]? = some o ∧ pc.holds η ∧ (∀ d, o.dst = some d → d < nt) ∧ Word C η ih ops n st.nx top st.lo st.tm st.hp V i o pc pc'
  closed : Closed ops (· ∈ done)
  lt : ∀ i ∈ done, i < n

theorem hpAdd_mem {hp : T Blk} : ∀ {l : List (Nat × Blk)}, (∀ p ∈ l, p.1 < 65535) → ∀ x b, (hpAdd hp l).get x = some b → (∃ p ∈ l, p = (x, b)) ∨ hp.get x = some b
  | [], _, x, b, h => .inr h
  | p :: l, hl, x, b, h => by
    simp only [hpAdd] at h
    by_cases hpx : p.1 = x
    · subst hpx
      rw [T.get_set_same _ _ _ (hl p (List.mem_cons_self ..))] at h
      cases h
      exact .inl ⟨p, List.mem_cons_self .., rfl⟩
    · rw [T.get_set_ne _ _ _ _ hpx] at h
      rcases hpAdd_mem (fun q hq => hl q (List.mem_cons_of_mem _ hq)) x b h with ⟨q, hq, e⟩ | h
      · exact .inl ⟨q, List.mem_cons_of_mem _ hq, e⟩
      · exact .inr h

theorem seen_mem {anc : List Nat} {hp : T Blk} : ∀ {wl : List Wr}, (∀ r ∈ wl, r.x < 65535) → ∀ x b, (seen anc hp wl).get x = some b → (∃ r ∈ wl, r.k ∈ anc ∧ r.x = x ∧ r.c = b) ∨ (hp.get x = some b ∧ ∀ r ∈ wl, r.x ≠ x)
  | [], _, x, b, h => .inr ⟨h, fun _ h => by cases h⟩
  | r :: wl, hl, x, b, h => by
    simp only [seen] at h
    by_cases hrx : r.x = x
    · subst hrx
      rw [T.get_set_same _ _ _ (hl r (List.mem_cons_self ..))] at h
      cases hc : (anc.any fun k => Nat.beq k r.k) with
      | false => rw [hc] at h; cases h
      | true => rw [hc] at h; cases h; exact .inl ⟨r, List.mem_cons_self .., any_mem.1 hc, rfl, rfl⟩
    · rw [T.get_set_ne _ _ _ _ hrx] at h
      rcases seen_mem (fun q hq => hl q (List.mem_cons_of_mem _ hq)) x b h with ⟨q, hq, e⟩ | ⟨h, hno⟩
      · exact .inl ⟨q, List.mem_cons_of_mem _ hq, e⟩
      · refine .inr ⟨h, fun q hq => ?_⟩
        cases hq with
        | head => exact hrx
        | tail _ hq => exact hno q hq

theorem headRun_ok {C : Cx} {P : Program} {η : Env} (hC : C.Ok P η) {ih : FI → List Sv → St → Tree (Sv × St)} (hih : CallOk P η ih) {ops : Array Oper}
    {E0 : Emb} {top base nt n : Nat} {w0 : World} {st : St} (hnt : nt ≤ 60000) (htop : top = st.nx + n) (hlim : top ≤ 65000) (hF : DrawFacts ops n) : ∀ (l done : List Nat) (V : Held) (tm : T Sv) (bk : T Blk) (wl : List Wr) (pc : PC) (tm' : T Sv) (bk' : T Blk) (wl' : List Wr) (pc' : PC), ordGood ops.toList n l done = true →
    (headRun C ih nt ops.toList st top l tm bk wl pc).at_ η = some (tm', bk', wl', pc') → pc.holds η → Run C η ih ops n nt top st V done tm bk wl →
    (∃ E a w, Inv η ops E0 st.nx top st.lo base nt w0 st.tm st.hp V (· ∈ done) E a w) →
    pc'.holds η ∧ ∃ V' done', Run C η ih ops n nt top st V' done' tm' bk' wl' ∧ ∀ i, i ∈ done ∨ i ∈ l → i ∈ done'
  | [], done, V, tm, bk, wl, pc, tm', bk', wl', pc', _, h, hpc, hR, _ => by
    cases h
    exact ⟨hpc, V, done, hR, fun i hi => hi.resolve_right (fun h => by cases h)⟩
  | i :: l, done, V, tm, bk, wl, pc, tm', bk', wl', pc', hord, h, hpc, hR, hI => by
    obtain ⟨hin, hnot, ⟨o, ho, haft, hstore⟩, hord'⟩ := ordGood_cons hord
    simp only [headRun] at h
    rw [nth_eq, Array.getElem?_toList, ho] at h
    simp only at h
    have hwi : V.w i = none := by
      cases hw : V.w i with
      | none => rfl
      | some r => exact absurd (hR.wr i r.1 r.2 hw).1 hnot
    -- what the slots hold
    have hslots : ∀ s b wr, ∀ t ∈ slotsOf ops.toList o, ∀ x, tm.get t = some x → (∃ k ok, k ∈ aftOf o ∧ ops[k]? = some ok ∧ ok.dst = some t ∧ (V.set i s b wr).v k = some x) ∨ (st.tm.get t = some x ∧ ∀ k ok, k < n → ops[k]? = some ok → ok.dst = some t → i ∈ aftOf ok ∨ k = i) := by
      intro s b wr t ht x hx
      rcases hR.tm t x hx with ⟨k, ok, hk, hok, hdk, hVk⟩ | ⟨h0, hno⟩
      · have hki : k ≠ i := fun e => by subst e; exact hnot hk
        rcases hF.slot i o t hin ho ht k ok (hR.lt k hk) hok hdk with h | h | h
        · exact .inl ⟨k, ok, h, hok, hdk, by simp [Held.set, hki, hVk]⟩
        · exact absurd (hR.closed k ok hk hok i h) hnot
        · exact absurd h hki
      · refine .inr ⟨h0, fun k ok hk hok hdk => ?_⟩
        rcases hF.slot i o t hin ho ht k ok hk hok hdk with h | h | h
        · exact absurd hdk (hno k ok (haft k h) hok)
        · exact .inl h
        · exact .inr h
    -- what is seen of the memory
    have hsees : ∀ bl, blksOf bk st.nx (allocsOf ops.toList (ancOf ops.toList o)) = some bl → ∀ s b wr, Sees ops n st.nx st.hp (V.set i s b wr) i o (seen (ancOf ops.toList o) (hpAdd st.hp bl) wl) := by
      intro bl hbl s b wr x c hx
      have hanc : ∀ k ∈ ancOf ops.toList o, k ∈ done := ancOf_in hR.closed haft
      have hbm := blksOf_mem hbl
      rcases seen_mem (fun r hr => (hR.wk r hr).2.2) x c hx with ⟨r, hr, hk, rfl, rfl⟩ | ⟨hx, hno⟩
      · have hki : r.k ≠ i := fun e => hnot (by rw [← e]; exact (hR.wk r hr).1)
        exact .inl ⟨r.k, hk, by simp [Held.set, hki, (hR.wk r hr).2.1]⟩
      · refine .inr ⟨?_, fun k ok d hk hok hwk => ?_⟩
        · rcases hpAdd_mem (fun p hp => by
            obtain ⟨k, hk, b', hb', rfl⟩ := hbm p hp
            have := hR.lt k (hR.bk k b' hb').1
            simp only; omega) x c hx with ⟨p, hp, hpe⟩ | h
          · obtain ⟨k, hk, b', hb', hpe'⟩ := hbm p hp
            rw [hpe] at hpe'
            cases hpe'
            have hkm := allocsOf_in hk
            have hki : k ≠ i := fun e => by subst e; exact hnot (hanc _ hkm)
            exact .inr ⟨k, hkm, by simp [Held.set, hki, (hR.bk k c hb').2], rfl⟩
          · exact .inl h
        · by_cases hki : k = i
          · exact .inr hki
          · simp only [Held.set, hki, if_false] at hwk
            obtain ⟨_, r, hr, _, hrx, _⟩ := hR.wr k x d hwk
            exact absurd hrx (hno r hr)
    have key : ∀ (s : Sv) (b : Option Blk) (wr : Option (Nat × Blk)) (pc1 : PC) (tm1 : T Sv) (bk1 : T Blk) (wl1 : List Wr), putT nt o.dst s tm = some tm1 → (∀ k x, bk1.get k = some x → (k = i ∧ b = some x) ∨ (k ≠ i ∧ bk.get k = some x)) →
        ((wr = none ∧ wl1 = wl) ∨ (isStore o = true ∧ ∃ r, wr = some r ∧ wl1 = ⟨i, r.1, r.2⟩ :: wl ∧ r.1 < 65535 ∧ ∀ q ∈ wl, q.x ≠ r.1)) → Word C η ih ops n st.nx top st.lo st.tm st.hp (V.set i s b wr) i o pc pc1 →
        (headRun C ih nt ops.toList st top l tm1 bk1 wl1 pc1).at_ η = some (tm', bk', wl', pc') → pc'.holds η ∧ ∃ V' done', Run C η ih ops n nt top st V' done' tm' bk' wl' ∧ ∀ j, j ∈ done ∨ j ∈ i :: l → j ∈ done' := by
      intro s b wr pc1 tm1 bk1 wl1 hput hbk hwl hw hrun
      obtain ⟨hdn, htm1⟩ := putT_spec hput hnt
      have hne : ∀ k, k ∈ done → k ≠ i := fun k hk e => by subst e; exact hnot hk
      obtain ⟨E, a, w, hI⟩ := hI
      have hI1 := hI.mono (V' := V.set i s b wr) fun k hk => by
        have := hne k hk
        simp [Held.set, this]
      obtain ⟨hpc1, S, ⟨a1, w1, hS⟩, s2, _⟩ := inv_step hC hih hI1 hR.closed hR.lt hF.le hnot (by omega) ho haft
        (fun d hd j oj hj hoj hjd => hnot (by have := hF.uniq i j o oj d hin (hR.lt j hj) ho hoj hd hjd; subst this; exact hj)) hdn hpc hw
      obtain ⟨E1, hI2⟩ := s2 a1 w1 hS
      have hclosed : Closed ops (· ∈ i :: done) := by
        intro k ok hk hok j hj
        cases hk with
        | head =>
          have : ok = o := Option.some.inj (hok.symm.trans ho)
          subst this
          exact List.mem_cons_of_mem _ (haft j hj)
        | tail _ hk => exact List.mem_cons_of_mem _ (hR.closed k ok hk hok j hj)
      have hR1 : Run C η ih ops n nt top st (V.set i s b wr) (i :: done) tm1 bk1 wl1 := by
        refine ⟨fun t x hx => ?_, fun k x hx => ?_, fun r hr => ?_, fun k x c hk => ?_, fun k hk => ?_, hclosed, fun k hk => ?_⟩
        · rcases htm1 t x hx with ⟨hd, rfl⟩ | ⟨hd, hx⟩
          · exact .inl ⟨i, o, List.mem_cons_self .., ho, hd, by simp [Held.set]⟩
          · rcases hR.tm t x hx with ⟨k, ok, hk, hok, hdk, hVk⟩ | ⟨h0, hno⟩
            · have hki := hne k hk
              exact .inl ⟨k, ok, List.mem_cons_of_mem _ hk, hok, hdk, by simp [Held.set, hki, hVk]⟩
            · refine .inr ⟨h0, fun k ok hk hok => ?_⟩
              cases hk with
              | head =>
                have : ok = o := Option.some.inj (hok.symm.trans ho)
                subst this; exact hd
              | tail _ hk => exact hno k ok hk hok
        · rcases hbk k x hx with ⟨rfl, hb⟩ | ⟨hki, hx⟩
          · exact ⟨List.mem_cons_self .., by simp [Held.set, hb]⟩
          · obtain ⟨q1, q2⟩ := hR.bk k x hx
            exact ⟨List.mem_cons_of_mem _ q1, by simp [Held.set, hki, q2]⟩
        · have old : r ∈ wl → r.k ∈ i :: done ∧ (V.set i s b wr).w r.k = some (r.x, r.c) ∧ r.x < 65535 := fun hr => by
            obtain ⟨q1, q2, q3⟩ := hR.wk r hr
            have hki := hne r.k q1
            exact ⟨List.mem_cons_of_mem _ q1, by simp [Held.set, hki, q2], q3⟩
          rcases hwl with ⟨_, rfl⟩ | ⟨_, q, hq, rfl, hq2, _⟩
          · exact old hr
          · cases hr with
            | head => exact ⟨List.mem_cons_self .., by simp [Held.set, hq], hq2⟩
            | tail _ hr => exact old hr
        · by_cases hki : k = i
          · subst hki
            simp only [Held.set, if_true] at hk
            rcases hwl with ⟨h0, _⟩ | ⟨_, q, hq, rfl, hq2, _⟩
            · rw [h0] at hk; cases hk
            · rw [hq] at hk; cases hk
              exact ⟨List.mem_cons_self .., _, List.mem_cons_self .., rfl, rfl, rfl⟩
          · simp only [Held.set, hki, if_false] at hk
            obtain ⟨q1, r, q2, q3⟩ := hR.wr k x c hk
            refine ⟨List.mem_cons_of_mem _ q1, r, ?_, q3⟩
            rcases hwl with ⟨_, rfl⟩ | ⟨_, q, hq, rfl, _⟩
            · exact q2
            · exact List.mem_cons_of_mem _ q2
        · cases hk with
          | head => exact ⟨o, pc, pc1, ho, hpc, hdn, hw⟩
          | tail _ hk =>
            obtain ⟨ok, p1, p2, q1, q2, q3, q4⟩ := hR.word k hk
            refine ⟨ok, p1, p2, q1, q2, q3, q4.mono hk hR.closed hnot q1 ho fun x c hwr => ?_⟩
            rcases hwl with ⟨h0, _⟩ | ⟨hst, q, hq, _, _, hq3⟩
            · rw [h0] at hwr; cases hwr
            · rw [hq] at hwr; cases hwr
              refine ⟨hstore hst k hk, fun r hr => ?_⟩
              obtain ⟨_, r', hr', _, hrx, _⟩ := hR.wr k r.1 r.2 hr
              rw [← hrx]
              exact Ne.symm (hq3 r' hr')
        · cases hk with
          | head => exact hin
          | tail _ hk => exact hR.lt k hk
      have hset : (fun j => j ∈ done ∨ j = i) = (· ∈ i :: done) := by funext j; simp [or_comm]
      obtain ⟨r1, V', done', r2, r3⟩ := headRun_ok hC hih hnt htop hlim hF l (i :: done) _ tm1 bk1 wl1 pc1 tm' bk' wl' pc' hord' hrun hpc1 hR1 ⟨E1, a1, w1, by rw [hset] at hI2; exact hI2⟩
      refine ⟨r1, V', done', r2, fun j hj => r3 j ?_⟩
      rcases hj with hj | hj
      · exact .inl (List.mem_cons_of_mem _ hj)
      · cases hj with
        | head => exact .inl (List.mem_cons_self ..)
        | tail _ hj => exact .inr hj
    have hbki : ∀ x, bk.get i ≠ some x := fun x hx => hnot (hR.bk i x hx).1
    split at h
    · rename_i ar hg har
      split at h
      · rename_i tm1 hput
        refine key _ (some ar.blk) none pc tm1 _ wl hput (fun k x hx => ?_) (.inl ⟨rfl, rfl⟩) ⟨tm, .nil, _, by simp [Held.set], hslots _ _ _, .inl ⟨ar, hg, har, rfl, by simp [Held.set], by simp [Held.set], rfl⟩⟩ h
        by_cases hki : i = k
        · subst hki
          rw [T.get_set_same _ _ _ (by omega)] at hx
          exact .inl ⟨rfl, hx⟩
        · rw [T.get_set_ne _ _ _ _ hki] at hx
          exact .inr ⟨Ne.symm hki, hx⟩
      · cases h
    · split at h
      · rename_i bl hbl
        split at h
        · rename_i t x v hg hop
          split at h
          · rename_i r tm1 hst hput
            cases hc : ((wl.any fun q => Nat.beq q.x r.1) || !Nat.blt r.1 65535) with
            | true => rw [hc] at h; cases h
            | false =>
              rw [hc] at h
              simp only [Bool.or_eq_false_iff] at hc
              have hr1 : r.1 < 65535 := by
                have := hc.2
                cases hb : Nat.blt r.1 65535 with
                | true => exact Nat.le_of_ble_eq_true hb
                | false => rw [hb] at this; cases this
              have hq : ∀ q ∈ wl, q.x ≠ r.1 := fun q hq e => by
                have := List.any_eq_false.1 hc.1 q hq
                exact this (by rw [e]; simp)
              refine key .undef none (some r) pc tm1 bk _ hput (fun k x hx => .inr ⟨fun e => by subst e; exact hbki x hx, hx⟩) (.inr ⟨by simp [isStore, hop], r, rfl, rfl, hr1, hq⟩)
                ⟨tm, _, .undef, by simp [Held.set], hslots _ _ _, .inr (.inr ⟨t, x, v, r, hsees bl hbl _ _ _, hg, hop, hst, rfl, by simp [Held.set], by simp [Held.set], rfl, fun j y c hj hji hwj => ?_⟩)⟩ h
              simp only [Held.set, hji, if_false] at hwj
              obtain ⟨_, r', hr', _, hrx, _⟩ := hR.wr j y c hwj
              rw [← hrx]; exact hq r' hr'
          · cases h
        · obtain ⟨⟨s, pc1⟩, h1, h2⟩ := Tree.at_bind h
          simp only at h2
          split at h2
          · rename_i tm1 hput
            exact key s none none pc1 tm1 bk wl hput (fun k x hx => .inr ⟨fun e => by subst e; exact hbki x hx, hx⟩) (.inl ⟨rfl, rfl⟩)
              ⟨tm, _, s, by simp [Held.set], hslots _ _ _, .inr (.inl ⟨hsees bl hbl _ _ _, h1, by simp [Held.set], by simp [Held.set]⟩)⟩ h2
          · cases h2
      · cases h

theorem seqAny {C : Cx} {P : Program} {η : Env} (hC : C.Ok P η) {ih : FI → List Sv → St → Tree (Sv × St)} (hih : CallOk P η ih) {nt : Nat} {ops : Array Oper} {n : Nat} (hF : DrawFacts ops n) (Q : Exit → Act → World → Prop) :
    ∀ (l : List Oper) (k : Nat) (st st' : St) (listed : Array Bool) (fuel : Nat), (∀ j, l[j]? = ops[k + j]?) → k + l.length = ops.size → n ≤ k → l.length ≤ fuel → listed.size = ops.size → (∀ j, j < ops.size → (listed.getD j true = true ↔ j < k)) →
    (seqOps C ih nt ops.toList l st).at_ η = some st' → ∀ (E : Emb) (base : Nat) (w0 : World) (a : Act) (w : World), SRel η E nt base w0 st a w →
    (∀ E' a' w', Agree E E' st.nx → st.nx ≤ st'.nx → st'.lo = st.lo → SRel η E' nt base w0 st' a' w' → Q .normal a' w') → wpAny P .any ops Q fuel listed a w
  | [], k, st, st', listed, fuel, hl, hk, hnk, hfu, hsz, hli, h, E, base, w0, a, w, hS, hK => by
    cases h
    have hr : Region.ready .any ops listed = [] := by
      cases hh : Region.ready .any ops listed with
      | nil => rfl
      | cons x xs =>
        have hx : x ∈ Region.ready .any ops listed := by rw [hh]; exact List.mem_cons_self ..
        obtain ⟨h1, o, h2, _⟩ := mem_ready.1 hx
        have hlt := (Array.getElem?_eq_some_iff.1 h2).1
        rw [(hli x hlt).2 (by simp at hk; omega)] at h1
        cases h1
    have hq := hK E a w (Agree.refl _ _) (Nat.le_refl _) rfl hS
    cases fuel with
    | zero => exact ⟨hr, hq⟩
    | succ f => exact ⟨fun _ => hq, fun i hi => by rw [hr] at hi; cases hi⟩
  | o :: l, k, st, st', listed, fuel, hl, hk, hnk, hfu, hsz, hli, h, E, base, w0, a, w, hS, hK => by
    obtain ⟨st1, h1, h2⟩ := Tree.at_bind h
    have ho : ops[k]? = some o := by have := hl 0; simpa using this.symm
    have hklt : k < ops.size := by simp at hk; omega
    cases fuel with
    | zero => simp at hfu
    | succ f =>
      rcases hF.tail with hF | ⟨_, hch, hnl, haft⟩
      · omega
      have hkr : k ∈ Region.ready .any ops listed := by
        refine mem_ready.2 ⟨?_, o, ho, fun e he hb => ?_⟩
        · cases hc : listed.getD k true with
          | false => rfl
          | true => have := (hli k hklt).1 hc; omega
        · have hlt := haft k o hnk ho e.on (aftOf_mem.2 ⟨e, he, hb, rfl⟩)
          have := (hli e.on (by omega)).2 hlt
          rw [Array.getD_eq_getD_getElem?] at this ⊢
          have hes : e.on < listed.size := by omega
          simpa [hes] using this
      have hrk : ∀ i ∈ Region.ready .any ops listed, i = k := by
        intro i hi
        obtain ⟨g1, oi, g2, g3⟩ := mem_ready.1 hi
        have hilt := (Array.getElem?_eq_some_iff.1 g2).1
        have hge : k ≤ i := by
          rcases Nat.lt_or_ge i k with hlt | hge
          · rw [(hli i hilt).2 hlt] at g1; cases g1
          · exact hge
        rcases Nat.lt_or_ge k i with hgt | hle
        · have hc := List.all_eq_true.1 hch i (List.mem_range.2 hilt)
          simp only [Bool.or_eq_true, decide_eq_true_eq] at hc
          rcases hc with hc | hc
          · omega
          · obtain ⟨o', ho', e, he, hb, hon⟩ := Region.waitsFor_spec hc
            have : o' = oi := Option.some.inj (ho'.symm.trans g2)
            subst this
            have h3 := g3 e he hb
            rw [hon] at h3
            have hlt : i - 1 < listed.size := by omega
            have : listed.getD (i - 1) true = true := by
              rw [Array.getD_eq_getD_getElem?] at h3 ⊢
              simpa [hlt] using h3
            have := (hli (i - 1) (by omega)).1 this
            omega
        · omega
      refine ⟨fun h0 => (by rw [h0] at hkr; cases hkr), fun i hi => ?_⟩
      have := hrk i hi; subst this
      have g4 := opStep_run hC hih ho h1 hS Q
      have hl' : ∀ j, l[j]? = ops[i + 1 + j]? := fun j => by have := hl (j + 1); simpa [Nat.add_assoc, Nat.add_comm 1 j] using this
      refine g4 _ (fun E' a' w' hA hn hlo hS1 => ?_)
      refine seqAny hC hih hF Q l (i + 1) st1 st' _ f hl' (by simp at hk; omega) (by omega) (by simp at hfu; omega) (by simp [hsz]) ?_ h2 E' base w0 a' w' hS1 (fun E'' a'' w'' hA' hn' hlo' hS' => hK E'' a'' w'' (hA.trans hA' hn) (Nat.le_trans hn hn') (hlo'.trans hlo) hS')
      intro j hj
      by_cases hij : i = j
      · subst hij
        have : (listed.setIfInBounds i true).getD i true = true := by simp [hsz, hj]
        simp [this]
      · rw [getD_set_ne true hij, hli j hj]; omega

theorem cnt_set {listed : Array Bool} {i : Nat} (hi : listed.getD i true = false) : ∀ l : List Nat, (l.countP fun j => !(listed.setIfInBounds i true).getD j true) ≤ (l.countP fun j => !listed.getD j true) ∧ (i ∈ l → (l.countP fun j => !(listed.setIfInBounds i true).getD j true) < (l.countP fun j => !listed.getD j true))
  | [] => ⟨by simp, fun h => by cases h⟩
  | k :: l => by
    obtain ⟨h1, h2⟩ := cnt_set hi l
    by_cases hik : i = k
    · subst hik
      have hlt : i < listed.size := by
        rcases Nat.lt_or_ge i listed.size with h | h
        · exact h
        · simp [Array.getElem?_eq_none h] at hi
      have : (listed.setIfInBounds i true).getD i true = true := by simp [hlt]
      simp only [List.countP_cons, this, hi, Bool.not_true, Bool.not_false, if_true, Bool.false_eq_true, if_false]
      exact ⟨by omega, fun _ => by omega⟩
    · simp only [List.countP_cons, getD_set_ne true hik]
      refine ⟨by omega, fun hm => ?_⟩
      have := h2 ((List.mem_cons.1 hm).resolve_left hik)
      omega

theorem headAny {C : Cx} {P : Program} {η : Env} (hC : C.Ok P η) {ih : FI → List Sv → St → Tree (Sv × St)} (hih : CallOk P η ih) {ops : Array Oper}
    {E0 : Emb} {top base nt n : Nat} {w0 : World} {st : St} {V : Held} {done : List Nat} {tm : T Sv} {bk : T Blk} {wl : List Wr} (htop : top = st.nx + n) (hF : DrawFacts ops n)
    (hR : Run C η ih ops n nt top st V done tm bk wl) (hall : ∀ i, i < n → i ∈ done)
    {Q : Exit → Act → World → Prop}
    (hfin : ∀ listed E a w fuel, HeadInv .any ops n listed → (∀ j, j < n → listed.getD j true = true) → ops.size - n ≤ fuel → Inv η ops E0 st.nx top st.lo base nt w0 st.tm st.hp V (fun j => j < n) E a w → wpAny P .any ops Q fuel listed a w) :
    ∀ (fuel : Nat) (listed : Array Bool) (E : Emb) (a : Act) (w : World), HeadInv .any ops n listed → ((List.range n).countP fun j => !listed.getD j true) + (ops.size - n) ≤ fuel →
    Inv η ops E0 st.nx top st.lo base nt w0 st.tm st.hp V (fun j => j < n ∧ listed.getD j true = true) E a w → wpAny P .any ops Q fuel listed a w := by
  have haft : ∀ i, i < n → ∀ o, ops[i]? = some o → ∀ j ∈ aftOf o, j < n := fun i hi => ord_aft _ _ hF.ord (fun _ h => by cases h) i (hF.all i hi)
  have full : ∀ (fuel : Nat) (listed : Array Bool) (E : Emb) (a : Act) (w : World), HeadInv .any ops n listed → ops.size - n ≤ fuel → (∀ j, j < n → listed.getD j true = true) → Inv η ops E0 st.nx top st.lo base nt w0 st.tm st.hp V (fun j => j < n ∧ listed.getD j true = true) E a w → wpAny P .any ops Q fuel listed a w := by
    intro fuel listed E a w hinv hf hlist hI
    refine hfin listed E a w fuel hinv hlist hf ?_
    have : (fun j => j < n ∧ listed.getD j true = true) = (fun j => j < n) := by funext j; exact propext ⟨fun h => h.1, fun h => ⟨h, hlist j h⟩⟩
    rw [← this]; exact hI
  intro fuel
  induction fuel with
  | zero =>
    intro listed E a w hinv hf hI
    have hz : ((List.range n).countP fun j => !listed.getD j true) = 0 := by omega
    exact full 0 listed E a w hinv (by omega) (fun j hj => by
      have := List.countP_eq_zero.1 hz j (List.mem_range.2 hj)
      simpa using this) hI
  | succ f ih' =>
    intro listed E a w hinv hf hI
    by_cases hex : ∃ i, i < n ∧ ¬ listed.getD i true = true
    · obtain ⟨i0, hi0, hun0⟩ := hex
      have hun0' : listed.getD i0 true = false := by cases h : listed.getD i0 true with | false => rfl | true => exact absurd h hun0
      have tog : ∀ j, j < n → (listed.getD j true = true ↔ listed.getD j false = true) := fun j hj => by
        have : j < listed.size := by rw [hinv.size]; have := hF.le; omega
        simp [this]
      have hltn : ∀ i ∈ Region.ready .any ops listed, i < n := by
        intro i hi
        obtain ⟨_, oi, g2, _⟩ := mem_ready.1 hi
        have hilt := (Array.getElem?_eq_some_iff.1 g2).1
        rcases hF.tail with hF | ⟨hs, hc, hn, _⟩
        · omega
        · rcases Nat.lt_or_ge i n with h | h
          · exact h
          · exact absurd hi (tail_waits hs hc hn hinv _ i0 rfl hi0 hun0' i h)
      have hclosed : Closed ops (fun j => j < n ∧ listed.getD j true = true) := by
        intro k ok hk hok j hj
        have hjn := haft k hk.1 ok hok j hj
        obtain ⟨e, he, hb, rfl⟩ := aftOf_mem.1 hj
        exact ⟨hjn, (tog _ hjn).2 (hinv.closed k ok hok ((tog k hk.1).1 hk.2) e he hb)⟩
      refine ⟨fun h0 => ?_, fun i hi => ?_⟩
      · obtain ⟨i, o, h1, h2, h3, h4⟩ := ord_first (S := fun j => j < n ∧ listed.getD j true = true) _ _ hF.ord (fun _ h => by cases h) ⟨i0, hF.all i0 hi0, fun h => hun0 h.2⟩
        have hin : i < n := hR.lt i (by
          rcases Nat.lt_or_ge i n with h | h
          · exact hall i h
          · exfalso
            have : ∀ (l done : List Nat), ordGood ops.toList n l done = true → ∀ k ∈ l, k < n := by
              intro l
              induction l with
              | nil => intro _ _ k hk; cases hk
              | cons x l ihl =>
                intro done hg k hk
                obtain ⟨g1, _, _, g4⟩ := ordGood_cons hg
                cases hk with
                | head => exact g1
                | tail _ hk => exact ihl _ g4 k hk
            exact absurd (this _ _ hF.ord i h1) (by omega))
        have : i ∈ Region.ready .any ops listed := by
          refine mem_ready.2 ⟨?_, o, h3, fun e he hb => ?_⟩
          · cases h : listed.getD i true with
            | false => rfl
            | true => exact absurd ⟨hin, h⟩ h2
          · obtain ⟨q1, q2⟩ := h4 e.on (aftOf_mem.2 ⟨e, he, hb, rfl⟩)
            exact (tog _ q1).1 q2
        rw [h0] at this; cases this
      · have hin := hltn i hi
        obtain ⟨hun, o, ho, hw⟩ := mem_ready.1 hi
        obtain ⟨o', pc, pc', e1, e2, e3, e4⟩ := hR.word i (hall i hin)
        have : o' = o := Option.some.inj (e1.symm.trans ho)
        subst this
        have haft' : ∀ j ∈ aftOf o', j < n ∧ listed.getD j true = true := fun j hj => by
          have hjn := haft i hin o' ho j hj
          obtain ⟨e, he, hb, rfl⟩ := aftOf_mem.1 hj
          exact ⟨hjn, (tog _ hjn).2 (hw e he hb)⟩
        obtain ⟨_, S, _, s2, s3⟩ := inv_step hC hih hI hclosed (fun j hj => hj.1) hF.le (fun h => by rw [hun] at h; exact absurd h.2 (by simp)) (by omega) ho haft'
          (fun d hd j oj hj hoj hjd => by
            have := hF.uniq i j o' oj d hin hj.1 ho hoj hd hjd
            subst this; rw [hun] at hj; exact absurd hj.2 (by simp)) e3 e2 e4
        refine s3 Q _ fun a' w' hS => ?_
        obtain ⟨E', hI'⟩ := s2 a' w' hS
        refine ih' (listed.setIfInBounds i true) E' a' w' (hinv.set hi hin) ?_ ?_
        · have := (cnt_set hun (List.range n)).2 (List.mem_range.2 hin)
          omega
        · have : (fun j => (j < n ∧ listed.getD j true = true) ∨ j = i) = (fun j => j < n ∧ (listed.setIfInBounds i true).getD j true = true) := by
            funext j
            by_cases hij : i = j
            · subst hij
              have hlt : i < listed.size := by rw [hinv.size]; have := hF.le; omega
              simp [hlt, hin]
            · rw [getD_set_ne true hij]
              exact propext ⟨fun h => h.resolve_right (Ne.symm hij), .inl⟩
          rw [← this]; exact hI'
    · exact full (f + 1) listed E a w hinv (by omega) (fun j hj => Classical.byContradiction fun h => hex ⟨j, hj, h⟩) hI

end
end Go.Ex


namespace Go.Ex
open Go Go.RowKit
noncomputable section

theorem natAll_spec {p : Nat → Bool} : ∀ {m : Nat}, natAll p m = true → ∀ i, i < m → p i = true
  | 0, _, i, hi => absurd hi (Nat.not_lt_zero _)
  | m + 1, h, i, hi => by
    simp only [natAll, Bool.and_eq_true] at h
    rcases Nat.lt_or_ge i m with hlt | hge
    · exact natAll_spec h.2 i hlt
    · have : i = m := by omega
      subst this; exact h.1
theorem natAny_spec {p : Nat → Bool} : ∀ {m : Nat}, natAny p m = true → ∃ i, i < m ∧ p i = true
  | 0, h => by cases h
  | m + 1, h => by
    simp only [natAny, Bool.or_eq_true] at h
    rcases h with h | h
    · exact ⟨m, Nat.lt_succ_self _, h⟩
    · obtain ⟨i, hi, hp⟩ := natAny_spec h; exact ⟨i, by omega, hp⟩
theorem lenL_eq {α : Type} : ∀ l : List α, lenL l = l.length
  | [] => rfl
  | _ :: l => by simp [lenL, lenL_eq l]
theorem dropL_eq {α : Type} : ∀ (n : Nat) (l : List α), dropL n l = l.drop n
  | 0, l => by cases l <;> rfl
  | n + 1, [] => rfl
  | n + 1, x :: l => by simp [dropL, dropL_eq n l]
theorem optIs_spec {o : Option Nat} {i : Nat} (h : optIs o i = true) : o = some i := by
  cases o with
  | none => cases h
  | some j => rw [Nat.eq_of_beq_eq_true h]

theorem waitsB_spec {ops : Array Oper} {j i : Nat} (h : waitsB ops.toList j i = true) : Region.waitsFor .any ops j i = true := by
  unfold waitsB at h
  split at h
  · rename_i o ho
    rw [nth_eq, Array.getElem?_toList] at ho
    obtain ⟨k, hk, hki⟩ := List.any_eq_true.1 h
    have := Nat.eq_of_beq_eq_true hki; subst this
    obtain ⟨e, he, hb, hon⟩ := aftOf_mem.1 hk
    unfold Region.waitsFor
    simp only [ho]
    exact Array.any_eq_true'.2 ⟨e, he, by simp [hb, hon]⟩
  · cases h

theorem drawB_spec {ops : Array Oper} {n : Nat} (hn : n ≤ ops.size) (h : drawB ops.toList n (lenL ops.toList) = true) : DrawFacts ops n := by
  have hm : lenL ops.toList = ops.size := by rw [lenL_eq]; simp
  rw [hm] at h
  simp only [drawB, Bool.and_eq_true, Bool.or_eq_true] at h
  obtain ⟨⟨⟨h1, h6⟩, h7⟩, h2⟩ := h
  have own : ∀ k ok d, k < n → ops[k]? = some ok → ok.dst = some d → firstD d 0 ops.toList = some k := by
    intro k ok d hk hok hd
    have := natAll_spec h1 k hk
    rw [nth_eq, Array.getElem?_toList, hok] at this
    simp only [hd, Bool.and_eq_true] at this
    exact optIs_spec this.1
  refine ⟨?_, ?_, hn, h6, fun i hi => any_mem.1 (natAll_spec h7 i hi), ?_⟩
  · intro i j oi oj d hi hj hoi hoj hdi hdj
    exact Option.some.inj ((own i oi d hi hoi hdi).symm.trans (own j oj d hj hoj hdj))
  · intro i o t hi ho ht k ok hk hok hdk
    have := natAll_spec h1 i hi
    rw [nth_eq, Array.getElem?_toList, ho] at this
    simp only [Bool.and_eq_true] at this
    have := List.all_eq_true.1 this.2 t ht
    rw [own k ok t hk hok hdk] at this
    simp only [Bool.or_eq_true] at this
    rcases this with ((h | h) | h) | h
    · have := Nat.le_of_ble_eq_true h; omega
    · obtain ⟨o', ho', e, he, hb, hon⟩ := Region.waitsFor_spec (waitsB_spec h)
      have : o' = o := Option.some.inj (ho'.symm.trans ho)
      subst this
      exact .inl (aftOf_mem.2 ⟨e, he, hb, hon⟩)
    · obtain ⟨o', ho', e, he, hb, hon⟩ := Region.waitsFor_spec (waitsB_spec h)
      have : o' = ok := Option.some.inj (ho'.symm.trans hok)
      subst this
      exact .inr (.inl (aftOf_mem.2 ⟨e, he, hb, hon⟩))
    · exact .inr (.inr (Nat.eq_of_beq_eq_true h))
  · rcases h2 with h2 | ⟨⟨⟨h2, h3⟩, h4⟩, h5⟩
    · exact .inl (Nat.eq_of_beq_eq_true h2)
    · refine .inr ⟨?_, ?_, Nat.le_of_ble_eq_true h4, ?_⟩
      · unfold Region.sinkB
        refine List.all_eq_true.2 fun i hi => ?_
        have hi := List.mem_range.1 hi
        obtain ⟨j, hj, hj2⟩ := natAny_spec (natAll_spec h2 i hi)
        simp only [Bool.and_eq_true] at hj2
        refine List.any_eq_true.2 ⟨j, List.mem_range.2 hj, ?_⟩
        simp only [Bool.and_eq_true, decide_eq_true_eq]
        exact ⟨Nat.le_of_ble_eq_true hj2.1, waitsB_spec hj2.2⟩
      · unfold Region.chainB
        refine List.all_eq_true.2 fun t ht => ?_
        have := natAll_spec h3 t (List.mem_range.1 ht)
        simp only [Bool.or_eq_true, decide_eq_true_eq] at this ⊢
        exact this.imp Nat.le_of_ble_eq_true waitsB_spec
      · intro t o hnt ho j hj
        have := natAll_spec h5 t (Array.getElem?_eq_some_iff.1 ho).1
        rw [nth_eq, Array.getElem?_toList, ho] at this
        simp only [Bool.or_eq_true] at this
        rcases this with h | h
        · have : t < n := Nat.le_of_ble_eq_true h; omega
        · exact Nat.le_of_ble_eq_true (List.all_eq_true.1 h j hj)

theorem headLen_le (p : Oper → Bool) : ∀ l : List Oper, headLen p l ≤ l.length
  | [] => Nat.le_refl _
  | o :: l => by
    simp only [headLen, List.length_cons]
    cases p o with
    | true => simp
    | false => have := headLen_le p l; simp; omega
theorem cutOf_spec {ops : Array Oper} {n : Nat} (h : cutOf ops.toList = some n) : DrawFacts ops n := by
  unfold cutOf at h
  cases h1 : drawB ops.toList (headLen isTail ops.toList) (lenL ops.toList) with
  | true =>
    rw [h1] at h; cases h
    exact drawB_spec (by have := headLen_le isTail ops.toList; simpa using this) h1
  | false =>
    rw [h1] at h
    cases h2 : drawB ops.toList (headLen isWrite ops.toList) (lenL ops.toList) with
    | true =>
      rw [h2] at h; cases h
      exact drawB_spec (by have := headLen_le isWrite ops.toList; simpa using this) h2
    | false =>
      rw [h2] at h
      cases h3 : drawB ops.toList (lenL ops.toList) (lenL ops.toList) with
      | true =>
        rw [h3] at h; cases h
        exact drawB_spec (by rw [lenL_eq]; simp) h3
      | false => rw [h3] at h; cases h

theorem wrAll_mem {hp : T Blk} : ∀ {wl : List Wr}, (∀ r ∈ wl, r.x < 65535) → ∀ x b, (wrAll hp wl).get x = some b → (∃ r ∈ wl, r.x = x ∧ r.c = b) ∨ (hp.get x = some b ∧ ∀ r ∈ wl, r.x ≠ x)
  | [], _, x, b, h => .inr ⟨h, fun _ h => by cases h⟩
  | r :: wl, hl, x, b, h => by
    simp only [wrAll] at h
    by_cases hrx : r.x = x
    · subst hrx
      rw [T.get_set_same _ _ _ (hl r (List.mem_cons_self ..))] at h
      cases h; exact .inl ⟨r, List.mem_cons_self .., rfl, rfl⟩
    · rw [T.get_set_ne _ _ _ _ hrx] at h
      rcases wrAll_mem (fun q hq => hl q (List.mem_cons_of_mem _ hq)) x b h with ⟨q, hq, e⟩ | ⟨h, hno⟩
      · exact .inl ⟨q, List.mem_cons_of_mem _ hq, e⟩
      · refine .inr ⟨h, fun q hq => ?_⟩
        cases hq with
        | head => exact hrx
        | tail _ hq => exact hno q hq

theorem blksAll_mem {bk : T Blk} {nx : Nat} : ∀ {n : Nat}, ∀ p ∈ blksAll bk nx n, ∃ k b, bk.get k = some b ∧ p = (nx + k, b)
  | 0, p, hp => by cases hp
  | n + 1, p, hp => by
    simp only [blksAll] at hp
    split at hp
    · rename_i b hb
      cases hp with
      | head => exact ⟨n, b, hb, rfl⟩
      | tail _ hp => exact blksAll_mem p hp
    · exact blksAll_mem p hp

theorem drawX_ok {C : Cx} {P : Program} {η : Env} (hC : C.Ok P η) : DrawOk P η (drawX C) := by
  intro ih hih nt ops st st' h E base w0 a w hS Q id hK
  unfold drawX at h
  split at h
  · rename_i n hcut
    have hF := cutOf_spec hcut
    cases hb : Nat.ble (st.nx + n) 65000 with
    | false => rw [hb] at h; cases h
    | true =>
      rw [hb] at h
      have hlim := Nat.le_of_ble_eq_true hb
      obtain ⟨⟨tm, bk, wl, pc⟩, h1, h2⟩ := Tree.at_bind h
      refine wp_region_any hC.mixed ?_
      have hd : HRel η E st.hp st.nx st.lo base w.drew := hS.hr.drew
      have hH0 : HRel η E st.hp (st.nx + n) st.lo base w.drew := ⟨fun i b h => Nat.lt_of_lt_of_le (hd.dom i b h) (Nat.le_add_right _ _), hd.cell, hd.inj, hd.hi, hd.top, hd.bot, fun i hi => hd.free i (by omega), hlim⟩
      have hI0 : ∀ (V : Held) (L : Nat → Prop), (∀ j, L j → False) → Inv η ops E st.nx (st.nx + n) st.lo base nt w0 st.tm st.hp V L E a w.drew := fun V L hL =>
        ⟨Agree.refl _ _, fun t s ht _ => hS.fr t s ht, fun j _ _ hj => (hL j hj).elim, ⟨st.hp, fun _ _ h _ => h, fun j _ hj => (hL j hj).elim, fun j _ _ hj => (hL j hj).elim, hH0⟩, fun j _ _ => hd.free _ (by omega), hS.sz, hS.df, hS.bl.drew⟩
      obtain ⟨hpc, V, done, hR, hsub⟩ := headRun_ok (E0 := E) (base := base) (w0 := w0) hC hih hS.nt rfl hlim hF (ordOf n ops.toList) [] ⟨fun _ => none, fun _ => none, fun _ => none⟩ st.tm .nil [] st.pc tm bk wl pc hF.ord h1 hS.pc
        ⟨fun t s ht => .inr ⟨ht, fun k ok hk => (by cases hk)⟩, fun k b hk => (by simp [T.get_nil] at hk), fun r hr => (by cases hr), fun k x c hk => (by cases hk), fun i hi => (by cases hi), fun i o hi => (by cases hi), fun i hi => (by cases hi)⟩
        ⟨E, a, w.drew, hI0 _ _ fun j hj => by cases hj⟩
      have hall : ∀ i, i < n → i ∈ done := fun i hi => hsub i (.inr (hF.all i hi))
      refine headAny (E0 := E) (top := st.nx + n) (base := base) (nt := nt) (n := n) (w0 := w0) hC hih rfl hF hR hall ?_ ops.size _ E a _ ?_ ?_ (hI0 _ _ ?_)
      · intro listed E1 a1 w1 fuel hinv hlist hfu hI
        obtain ⟨hp, hp1, hp2, hp3, hH⟩ := hI.hp
        have hSt : SRel η E1 nt base w0 ⟨tm, wrAll (hpAdd st.hp (bif anyAlloc ops.toList then blksAll bk st.nx n else [])) wl, st.nx + n, st.lo, pc⟩ a1 w1 := by
          refine ⟨fun t s ht => ?_, hI.sz, hS.nt, hI.df, ?_, hI.bl, Nat.le_trans hS.lo (Nat.le_add_right _ _), hpc⟩
          · rcases hR.tm t s ht with ⟨k, ok, hk, hok, hdk, hVk⟩ | ⟨h0, hno⟩
            · obtain ⟨s', v, e1, e2, e3⟩ := hI.rc k ok t (hR.lt k hk) hok hdk
              rw [hVk] at e1; cases e1
              exact ⟨v, e2, e3⟩
            · exact hI.old t s h0 fun k ok hk hok => hno k ok (hall k hk) hok
          · refine hH.sub fun x b hx => ?_
            rcases wrAll_mem (fun r hr => (hR.wk r hr).2.2) x b hx with ⟨r, hr, rfl, rfl⟩ | ⟨hx, hno⟩
            · obtain ⟨q1, q2, _⟩ := hR.wk r hr
              exact hp3 r.k r.x r.c (hR.lt _ q1) q2
            · have hno' : ∀ k c, k < n → V.w k ≠ some (x, c) := fun k c hk hwk => by
                obtain ⟨_, r, hr, _, hrx, _⟩ := hR.wr k x c hwk
                exact hno r hr hrx
              have hmem : ∀ p ∈ (bif anyAlloc ops.toList then blksAll bk st.nx n else []), ∃ k b, bk.get k = some b ∧ p = (st.nx + k, b) := fun p hp' => by
                cases hc : anyAlloc ops.toList with
                | true => rw [hc] at hp'; exact blksAll_mem p hp'
                | false => rw [hc] at hp'; cases hp'
              rcases hpAdd_mem (fun p hp' => by
                obtain ⟨k, b', hk, rfl⟩ := hmem p hp'
                have := hR.lt k (hR.bk k b' hk).1
                simp only; omega) x b hx with ⟨p, hp', hpe⟩ | h
              · obtain ⟨k, b', hk, hpe'⟩ := hmem p hp'
                rw [hpe] at hpe'
                cases hpe'
                obtain ⟨q1, q2⟩ := hR.bk k b hk
                exact hp2 k b (hR.lt k q1) q2 hno'
              · exact hp1 x b h hno'
        simp only at h2
        rw [dropL_eq] at h2
        refine seqAny hC hih hF Q (ops.toList.drop n) n _ st' listed fuel (fun j => by simp [List.getElem?_drop]) (by have := hF.le; simp; omega) (Nat.le_refl _) (by simp; omega) hinv.size ?_ h2 E1 base w0 a1 w1 hSt ?_
        · intro j hj
          refine ⟨fun h => ?_, hlist j⟩
          rcases Nat.lt_or_ge j n with hlt | hge
          · exact hlt
          · rw [hinv.tail j hge hj] at h; cases h
        · intro E' a' w' hA hn' hlo' hS'
          exact hK E' a' w' (hI.ag.trans hA (Nat.le_add_right _ _)) (Nat.le_trans (Nat.le_add_right _ _) hn') hlo' hS'
      · exact ⟨by simp, fun j oj _ hl => (by rw [getD_replicate_false] at hl; cases hl), fun t _ ht => getD_in (by simpa using ht) (getD_replicate_false _ _)⟩
      · have : ((List.range n).countP fun j => !(Array.replicate ops.size false).getD j true) ≤ n := by
          refine Nat.le_trans List.countP_le_length ?_
          simp
        have := hF.le
        omega
      · intro j hj
        have h1 := hj.2
        have := hF.le
        have hlt : j < ops.size := by omega
        simp [hlt] at h1
  · cases h

/-- What the executor says of a call is so. -/
theorem call_run {C : Cx} {P : Program} {η : Env} (hC : C.Ok P η) (n : Nat) : CallOk P η (callE C (drawX C) n) := callE_run hC (drawX_ok hC) n

end
end Go.Ex

