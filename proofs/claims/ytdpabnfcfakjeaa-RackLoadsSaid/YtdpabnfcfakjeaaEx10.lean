/-
  All operations that leave memory alone, together.
-/
import Derived.Test.YtdpabnfcfakjeaaExM

namespace Go.Ex
open Go Go.RowKit
noncomputable section

def evL (tm : T Sv) : List Operand → Option (List Sv)
  | [] => some []
  | x :: l => match evX tm x, evL tm l with
    | some s, some r => some (s :: r)
    | _, _ => none
def evParts (tm : T Sv) : List (Nat × Operand) → Option (List (Nat × Sv))
  | [] => some []
  | (i, x) :: l => match evX tm x, evParts tm l with
    | some s, some r => some ((i, s) :: r)
    | _, _ => none
def evO (tm : T Sv) : Option Operand → Option (Option Sv)
  | none => some none
  | some x => match evX tm x with
    | some s => some (some s)
    | none => none

theorem evL_den {η : Env} {E : Emb} {tm : T Sv} {a : Act} : ∀ {l : List Operand} {r}, (∀ x ∈ l, ORel η E tm a x) → evL tm l = some r → denArgs η E r = some (l.map a.eval)
  | [], r, _, h => by cases h; rfl
  | x :: l, r, hx, h => by
    simp only [evL] at h
    split at h
    · rename_i s r' h1 h2
      cases h
      have e1 := hx x (List.mem_cons_self ..) s h1
      have e2 := evL_den (fun y hy => hx y (List.mem_cons_of_mem _ hy)) h2
      simp [denArgs, e1, e2]
    · cases h
theorem evParts_rel {η : Env} {E : Emb} {tm : T Sv} {a : Act} : ∀ {l : List (Nat × Operand)} {r}, (∀ p ∈ l, ORel η E tm a p.2) → evParts tm l = some r → PartsRel η E r (l.map fun p => (p.1, a.eval p.2))
  | [], r, _, h => by cases h; trivial
  | (i, x) :: l, r, hx, h => by
    simp only [evParts] at h
    split at h
    · rename_i s r' h1 h2
      cases h
      exact ⟨rfl, hx (i, x) (List.mem_cons_self ..) s h1, evParts_rel (fun y hy => hx y (List.mem_cons_of_mem _ hy)) h2⟩
    · cases h
theorem evO_rel {η : Env} {E : Emb} {tm : T Sv} {a : Act} {o : Option Operand} {r} (hx : ∀ x, o = some x → ORel η E tm a x) (h : evO tm o = some r) : BndRel η E r (o.map a.eval) := by
  cases o with
  | none => cases h; trivial
  | some x =>
    simp only [evO] at h
    split at h
    · rename_i s h1; cases h; exact hx x rfl s h1
    · cases h

def caps : List Sv → Option (List (Nat × Nat))
  | [] => some []
  | .one (.ptr (some a)) :: l => match caps l with
    | some r => some (a :: r)
    | none => none
  | _ => none
theorem caps_den {η : Env} {E : Emb} : ∀ {l : List Sv} {r vs}, caps l = some r → denArgs η E l = some vs → denCaps E r = some vs
  | [], r, vs, h, hv => by cases h; cases hv; rfl
  | s :: l, r, vs, h, hv => by
    obtain ⟨v, us, h1, h2, rfl⟩ := denArgs_cons hv
    unfold caps at h
    split at h
    · rename_i he; cases he
    · rename_i a l' he
      cases he
      split at h
      · rename_i r' hr
        cases h
        obtain ⟨b, o⟩ := a
        obtain ⟨B, K, hE, rfl⟩ := ptr_den h1
        simp [denCaps, denAddr, hE, caps_den hr h2]
      · cases h
    · cases h

def leafO (o : Option Sv) (pc : PC) : Tree (Sv × PC) :=
  match o with
  | some s => .leaf (s, pc)
  | none => .fail
theorem at_leafO {η : Env} {o : Option Sv} {pc pc' : PC} {sv : Sv} (h : (leafO o pc).at_ η = some (sv, pc')) : o = some sv ∧ pc = pc' := by
  cases o with
  | none => cases h
  | some s => simp only [leafO, Tree.at_, Option.some.injEq, Prod.mk.injEq] at h; exact ⟨by rw [h.1], h.2⟩

def opn (o : Option (Option Bool × Sv)) (alt : Tree (Sv × PC)) (pc : PC) : Tree (Sv × PC) :=
  match o with
  | some (none, s) => .leaf (s, pc)
  | some (some b, s) => chk b (.leaf (s, pc))
  | none => alt
theorem at_opn {η : Env} {o : Option (Option Bool × Sv)} {alt : Tree (Sv × PC)} {pc pc' : PC} {sv : Sv} (h : (opn o alt pc).at_ η = some (sv, pc')) :
    (∃ ob, o = some (ob, sv) ∧ (∀ b, ob = some b → b = true) ∧ pc' = pc) ∨ alt.at_ η = some (sv, pc') := by
  unfold opn at h
  split at h
  · simp only [Tree.at_, Option.some.injEq, Prod.mk.injEq] at h
    obtain ⟨rfl, rfl⟩ := h
    exact .inl ⟨none, rfl, (fun b e => by cases e), rfl⟩
  · obtain ⟨hb, h⟩ := at_chk h
    simp only [Tree.at_, Option.some.injEq, Prod.mk.injEq] at h
    obtain ⟨rfl, rfl⟩ := h
    exact .inl ⟨_, rfl, (fun b e => by cases e; exact hb), rfl⟩
  · exact .inr h

/-- An operation that leaves memory alone (no call of a Go function). -/
def qop (C : Cx) (hp : T Blk) (tm : T Sv) (pc : PC) (o : Op) : Tree (Sv × PC) :=
  match o with
  | .move x | .assign x => leafO (evX tm x) pc
  | .pick c a b => match evX tm c with
    | some (.one (.bool bx)) => branch C.D pc bx fun t pc => leafO (bif t then evX tm a else evX tm b) pc
    | _ => .fail
  | .load t x => match evX tm x with
    | some s => opn (openLoad C hp t s) (leafO (loadX C hp t s) pc) pc
    | none => .fail
  | .nilCheck x => match evX tm x with
    | some (.one (.ptr (some a))) => .leaf (.one (.ptr (some a)), pc)
    | some (.one (.fn f cs)) => .leaf (.one (.fn f cs), pc)
    | _ => .fail
  | .binOp op t x y _ => match evX tm x, evX tm y with
    | some a, some b => binX C op t a b pc
    | _, _ => .fail
  | .unOp op _ x => match evX tm x with
    | some s => leafO (unX op s) pc
    | none => .fail
  | .convert s d x => match evX tm x with
    | some a => leafO (convX C s d a pc) pc
    | none => .fail
  | .fieldAddr t x f => match evX tm x with
    | some s => opn ((openField C t s f).map fun s => (none, s)) (leafO (fieldAddrX C t s f) pc) pc
    | none => .fail
  | .indexAddr t x i => match evX tm x, evX tm i with
    | some a, some b => opn (openIx C t a b) (leafO (indexAddrX C t a b) pc) pc
    | _, _ => .fail
  | .field t x f => match evX tm x with
    | some s => leafO (fieldX C t s f) pc
    | none => .fail
  | .index t x i => match evX tm x, evX tm i with
    | some a, some b => opn (openIndex C t a b) (leafO (indexX C t a b) pc) pc
    | _, _ => .fail
  | .slice t x lo hi none => match evX tm x, evO tm lo, evO tm hi with
    | some a, some l, some h => opn (openSlice C t a l h) (leafO (sliceX C t a l h) pc) pc
    | _, _, _ => .fail
  | .build t ps => match evParts tm ps.toList with
    | some l => leafO (buildX C t l) pc
    | none => .fail
  | .extract x i => match evX tm x with
    | some s => leafO (extractX s i) pc
    | none => .fail
  | .makeFunc (.func f) first captured => match first.toList, evL tm captured.toList with
    | [], some l => match caps l with
      | some cs => .leaf (.one (.fn f cs), pc)
      | none => .fail
    | _, _ => .fail
  | .call c => match c.callee, evL tm c.args.toList with
    | .builtin b, some l => builtinX C hp b c.argTypes.toList l pc
    | _, _ => .fail
  | .lookup t x k ok => match evX tm x, evX tm k with
    | some a, some b => leafO (lookX C hp t a b ok) pc
    | _, _ => .fail
  | _ => .fail

theorem valueOf {P : Program} {w : World} {s : Sem Value} {v : Value} (h : s.run P w = .ok v w) : (do pure (Next.value (← s)) : Sem Next).run P w = .ok (.value v) w := by
  simp [h]

theorem qop_run {C : Cx} {P : Program} {η : Env} {E : Emb} (hC : C.Ok P η) {hp : T Blk} {nx lo base : Nat} {w : World} (hH : HRel η E hp nx lo base w) {tm : T Sv} {a : Act} {pc pc' : PC} {o : Oper} {sv : Sv}
    (hpc : pc.holds η) (hx : ∀ x ∈ o.op.operands, ORel η E tm a x) (h : (qop C hp tm pc o.op).at_ η = some (sv, pc')) :
    pc'.holds η ∧ ∃ v, sv.den η E = some v ∧ (execOp a.eval o).run P w = .ok (.value v) w := by
  obtain ⟨dst, op, type, pos, after, guard⟩ := o
  simp only at hx h
  unfold qop at h
  split at h
  · rename_i x
    obtain ⟨h1, rfl⟩ := at_leafO h
    exact ⟨hpc, _, hx x (by simp [Op.operands]) _ h1, rfl⟩
  · rename_i x
    obtain ⟨h1, rfl⟩ := at_leafO h
    exact ⟨hpc, _, hx x (by simp [Op.operands]) _ h1, rfl⟩
  · rename_i c x y
    split at h
    · rename_i bx hb
      obtain ⟨pc1, hp1, h1⟩ := at_branch hC.D hpc h
      obtain ⟨h2, rfl⟩ := at_leafO h1
      have ec := hx c (by simp [Op.operands]) _ hb
      simp only [Sv.den, Sc.den, Option.some.injEq] at ec
      refine ⟨hp1, ?_⟩
      cases hbd : bx.den η with
      | true =>
        rw [hbd] at h2 ec
        exact ⟨_, hx x (by simp [Op.operands]) _ h2, by simp [execOp, ← ec, asBool]⟩
      | false =>
        rw [hbd] at h2 ec
        exact ⟨_, hx y (by simp [Op.operands]) _ h2, by simp [execOp, ← ec, asBool]⟩
    · cases h
  · rename_i t x
    split at h
    · rename_i s hs
      rcases at_opn h with ⟨ob, h1, hb, rfl⟩ | h
      · obtain ⟨v, h2, h3⟩ := openLoad_run hC hH h1 hb (hx x (by simp [Op.operands]) _ hs)
        exact ⟨hpc, v, h2, valueOf h3⟩
      obtain ⟨h1, rfl⟩ := at_leafO h
      obtain ⟨v, h2, h3⟩ := loadX_run hC hH h1 (hx x (by simp [Op.operands]) _ hs)
      exact ⟨hpc, v, h2, valueOf h3⟩
    · cases h
  · rename_i x
    split at h
    · rename_i c hs
      have e := hx x (by simp [Op.operands]) _ hs
      simp only [Tree.at_, Option.some.injEq, Prod.mk.injEq] at h
      obtain ⟨rfl, rfl⟩ := h
      obtain ⟨b, o⟩ := c
      obtain ⟨B, K, _, ev⟩ := ptr_den e
      exact ⟨hpc, _, e, by simp [execOp, ev]⟩
    · rename_i f cs hs
      have e := hx x (by simp [Op.operands]) _ hs
      simp only [Tree.at_, Option.some.injEq, Prod.mk.injEq] at h
      obtain ⟨rfl, rfl⟩ := h
      refine ⟨hpc, _, e, ?_⟩
      simp only [Sv.den, Sc.den, Option.map_eq_some_iff] at e
      obtain ⟨l, _, ev⟩ := e
      simp [execOp, ← ev]
    · cases h
  · rename_i op t x y yt
    split at h
    · rename_i s1 s2 hs1 hs2
      obtain ⟨h1, v, h2, h3⟩ := binX_run hC hpc h (hx x (by simp [Op.operands]) _ hs1) (hx y (by simp [Op.operands]) _ hs2) x y
      exact ⟨h1, v, h2, valueOf (h3 w)⟩
    · cases h
  · rename_i op t x
    split at h
    · rename_i s hs
      obtain ⟨h1, rfl⟩ := at_leafO h
      obtain ⟨v, h2, h3⟩ := unX_run (P := P) h1 (hx x (by simp [Op.operands]) _ hs)
      exact ⟨hpc, v, h2, valueOf (h3 w)⟩
    · cases h
  · rename_i s d x
    split at h
    · rename_i s' hs
      obtain ⟨h1, rfl⟩ := at_leafO h
      obtain ⟨v, h2, h3⟩ := convX_run hC hpc h1 (hx x (by simp [Op.operands]) _ hs)
      exact ⟨hpc, v, h2, valueOf (h3 w)⟩
    · cases h
  · rename_i t x f
    split at h
    · rename_i s hs
      rcases at_opn h with ⟨ob, h1, hb, rfl⟩ | h
      · simp only [Option.map_eq_some_iff, Prod.mk.injEq] at h1
        obtain ⟨s', h1, rfl, rfl⟩ := h1
        obtain ⟨v, h2, h3⟩ := openField_run hC h1 (hx x (by simp [Op.operands]) _ hs)
        exact ⟨hpc, v, h2, valueOf (h3 w)⟩
      obtain ⟨h1, rfl⟩ := at_leafO h
      obtain ⟨v, h2, h3⟩ := fieldAddrX_run hC h1 (hx x (by simp [Op.operands]) _ hs)
      exact ⟨hpc, v, h2, valueOf (h3 w)⟩
    · cases h
  · rename_i t x i
    split at h
    · rename_i s1 s2 hs1 hs2
      rcases at_opn h with ⟨ob, h1, hb, rfl⟩ | h
      · obtain ⟨v, h2, h3⟩ := openIx_run hC h1 hb (hx x (by simp [Op.operands]) _ hs1) (hx i (by simp [Op.operands]) _ hs2)
        exact ⟨hpc, v, h2, valueOf (h3 w)⟩
      obtain ⟨h1, rfl⟩ := at_leafO h
      obtain ⟨v, h2, h3⟩ := indexAddrX_run hC h1 (hx x (by simp [Op.operands]) _ hs1) (hx i (by simp [Op.operands]) _ hs2)
      exact ⟨hpc, v, h2, valueOf (h3 w)⟩
    · cases h
  · rename_i t x f
    split at h
    · rename_i s hs
      obtain ⟨h1, rfl⟩ := at_leafO h
      obtain ⟨v, h2, h3⟩ := fieldX_run hC h1 (hx x (by simp [Op.operands]) _ hs)
      exact ⟨hpc, v, h2, valueOf (h3 w)⟩
    · cases h
  · rename_i t x i
    split at h
    · rename_i s1 s2 hs1 hs2
      rcases at_opn h with ⟨ob, h1, hb, rfl⟩ | h
      · obtain ⟨v, h2, h3⟩ := openIndex_run hC h1 hb (hx x (by simp [Op.operands]) _ hs1) (hx i (by simp [Op.operands]) _ hs2)
        exact ⟨hpc, v, h2, valueOf (h3 w)⟩
      obtain ⟨h1, rfl⟩ := at_leafO h
      obtain ⟨v, h2, h3⟩ := indexX_run hC h1 (hx x (by simp [Op.operands]) _ hs1) (hx i (by simp [Op.operands]) _ hs2)
      exact ⟨hpc, v, h2, valueOf (h3 w)⟩
    · cases h
  · rename_i t x lo' hi'
    split at h
    · rename_i s l h' hs hl hh
      rcases at_opn h with ⟨ob, h1, hb, rfl⟩ | h
      · obtain ⟨v, h2, h3⟩ := openSlice_run hC h1 hb (hx x (by simp [Op.operands]) _ hs) (evO_rel (fun y hy => hx y (by simp [Op.operands, hy])) hl) (evO_rel (fun y hy => hx y (by simp [Op.operands, hy])) hh)
        exact ⟨hpc, v, h2, valueOf (h3 w)⟩
      obtain ⟨h1, rfl⟩ := at_leafO h
      obtain ⟨v, h2, h3⟩ := sliceX_run hC h1 (hx x (by simp [Op.operands]) _ hs) (evO_rel (fun y hy => hx y (by simp [Op.operands, hy])) hl) (evO_rel (fun y hy => hx y (by simp [Op.operands, hy])) hh)
      exact ⟨hpc, v, h2, valueOf (h3 w)⟩
    · cases h
  · rename_i t ps
    split at h
    · rename_i l hl
      obtain ⟨h1, rfl⟩ := at_leafO h
      have hr := evParts_rel (fun p hp => hx p.2 (by simp [Op.operands]; exact ⟨p.1, by simpa using hp⟩)) hl
      have hr' : PartsRel η E l (ps.map fun (i, x) => (i, a.eval x)).toList := by simpa using hr
      obtain ⟨v, h2, h3⟩ := buildX_run hC h1 hr'
      exact ⟨hpc, v, h2, valueOf (h3 w)⟩
    · cases h
  · rename_i x i
    split at h
    · rename_i s hs
      obtain ⟨h1, rfl⟩ := at_leafO h
      obtain ⟨v, h2, h3⟩ := extractX_run (P := P) h1 (hx x (by simp [Op.operands]) _ hs)
      exact ⟨hpc, v, h2, valueOf (h3 w)⟩
    · cases h
  · rename_i f first captured
    split at h
    · rename_i l hf hl
      split at h
      · rename_i cs hcs
        simp only [Tree.at_, Option.some.injEq, Prod.mk.injEq] at h
        obtain ⟨rfl, rfl⟩ := h
        have e := evL_den (fun x hm => hx x (by simp [Op.operands]; exact .inr (by simpa using hm))) hl
        have ec := caps_den hcs e
        have ef : first = #[] := by cases first; simp at hf; simp [hf]
        subst ef
        exact ⟨hpc, .func (.func f) #[] (captured.map a.eval), by simp only [Sv.den, Sc.den, ec, Option.map_some]; rw [← Array.toList_map, Array.toArray_toList], by simp [execOp, Instr.makeFunc]⟩
      · cases h
    · cases h
  · rename_i c
    split at h
    · rename_i b l hb hl
      have e := evL_den (fun x hm => hx x (Array.mem_append.2 (.inr (Array.mem_toList_iff.1 hm)))) hl
      obtain ⟨h1, v, h2, h3⟩ := builtinX_run hC hH hpc h e type (c.args.map fun | .const _ => true | _ => false)
      refine ⟨h1, v, h2, ?_⟩
      simp only [execOp, resolve, hb, Sem.run_bind, Sem.run_pure, Result.andThen_ok, invoke]
      have ea : (List.map a.eval c.args.toList).toArray = c.args.map a.eval := by rw [← Array.toList_map, Array.toArray_toList]
      rw [ea] at h3
      exact h3
    · cases h
  · rename_i t x k ok
    split at h
    · rename_i sa sb ha hb
      obtain ⟨h1, rfl⟩ := at_leafO h
      obtain ⟨v, h2, h3⟩ := lookX_run hC hH h1 (hx x (by simp [Op.operands]) _ ha) (hx k (by simp [Op.operands]) _ hb)
      exact ⟨hpc, v, h2, valueOf h3⟩
    · cases h
  · cases h

end
end Go.Ex

