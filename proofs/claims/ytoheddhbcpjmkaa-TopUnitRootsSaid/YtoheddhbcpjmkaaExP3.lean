/-
  The executor's composite values and built-in functions; all operations that leave memory alone, together.
-/
/-
  All operations that leave memory alone, together.
-/
/-
  The executor's operations that make memory, and those that write it.
-/
/-
  The executor's writes: stores, append, maps.
-/
import Derived.Test.YtoheddhbcpjmkaaExP2
import Derived.Laws.MakeOwn
import Derived.Maps.AppendAt
import Derived.Carry

namespace Go.Ex
open Go Go.RowKit
noncomputable section

/-! ## Composite values -/
def cellsS : Sv → Option (List Sc)
  | .one c => some [c]
  | .agg l => some l
  | _ => none
theorem Sc.den_cells {η : Env} {E : Emb} {c : Sc} {v : Value} (h : c.den η E = some v) : v.cells = #[v] ∧ v.oneCell' = true := by
  cases c with
  | ptr a => cases a with
    | none => cases h; exact ⟨rfl, rfl⟩
    | some a =>
      simp only [Sc.den, Option.map_eq_some_iff] at h
      obtain ⟨x, _, rfl⟩ := h; exact ⟨rfl, rfl⟩
  | slice a n c =>
    cases a with
    | none => cases c <;> simp only [Sc.den] at h <;> first | (cases h; exact ⟨rfl, rfl⟩) | cases h
    | some a =>
      obtain ⟨b, o⟩ := a
      obtain ⟨B, K, m, _, rfl, _⟩ := slice_den (η := η) (E := E) (b := b) (o := o) (n := n) (c := c) (va := v) h
      exact ⟨rfl, rfl⟩
  | map r => cases r with
    | none => cases h; exact ⟨rfl, rfl⟩
    | some b =>
      simp only [Sc.den, Option.map_eq_some_iff] at h
      obtain ⟨x, _, rfl⟩ := h; exact ⟨rfl, rfl⟩
  | fn f caps =>
    simp only [Sc.den, Option.map_eq_some_iff] at h
    obtain ⟨x, _, rfl⟩ := h; exact ⟨rfl, rfl⟩
  | asl b n c =>
    simp only [Sc.den, Option.map_eq_some_iff] at h
    obtain ⟨x, _, rfl⟩ := h; exact ⟨rfl, rfl⟩
  | aptr b o =>
    simp only [Sc.den, Option.map_eq_some_iff] at h
    obtain ⟨x, _, rfl⟩ := h; exact ⟨rfl, rfl⟩
  | _ => cases h; exact ⟨rfl, rfl⟩

theorem cellsS_den {η : Env} {E : Emb} {x : Sv} {l : List Sc} {va : Value} (h : cellsS x = some l) (hx : x.den η E = some va) : denL η E l = some va.cells.toList := by
  cases x with
  | one c =>
    cases h
    simp only [Sv.den] at hx
    rw [(Sc.den_cells hx).1]
    simp [denL, hx]
  | agg l' => cases h; obtain ⟨vs, h1, rfl⟩ := agg_den hx; simpa [Value.cells] using h1
  | tup l' => cases h
  | undef => cases h

/-- Cells written one after the other. -/
def setAll {α : Type} : List α → Nat → List α → List α
  | l, _, [] => l
  | l, o, c :: cs => setAll (l.set o c) (o + 1) cs

theorem setAll_length {α : Type} : ∀ (cs l : List α) (o : Nat), (setAll l o cs).length = l.length
  | [], l, o => rfl
  | c :: cs, l, o => by simp [setAll, setAll_length cs]

theorem denL_set {η : Env} {E : Emb} : ∀ {l : List Sc} {vs : List Value} {o : Nat} {c : Sc} {v : Value}, denL η E l = some vs → c.den η E = some v → denL η E (l.set o c) = some (vs.set o v)
  | [], vs, o, c, v, h, _ => by cases h; rfl
  | d :: l, vs, 0, c, v, h, hc => by
    obtain ⟨u, us, _, h2, rfl⟩ := denL_cons h
    simp [denL, hc, h2]
  | d :: l, vs, o + 1, c, v, h, hc => by
    obtain ⟨u, us, h1, h2, rfl⟩ := denL_cons h
    simp [denL, h1, denL_set h2 hc]

theorem denL_setAll {η : Env} {E : Emb} : ∀ (cs : List Sc) {l : List Sc} {vs us : List Value} {o : Nat}, denL η E l = some vs → denL η E cs = some us → denL η E (setAll l o cs) = some (setAll vs o us)
  | [], l, vs, us, o, h, hc => by cases hc; exact h
  | c :: cs, l, vs, us, o, h, hc => by
    obtain ⟨u, us', h1, h2, rfl⟩ := denL_cons hc
    exact denL_setAll cs (denL_set h h1) h2

theorem foldl_setAll : ∀ (us : List Value) (k off : Nat) (vs : List Value),
    (us.zipIdx k).foldl (fun cs (x : Value × Nat) => cs.setIfInBounds (off + x.2) x.1) vs.toArray = (setAll vs (off + k) us).toArray
  | [], k, off, vs => rfl
  | u :: us, k, off, vs => by
    simp only [List.zipIdx_cons, List.foldl_cons, setAll]
    rw [List.setIfInBounds_toArray, foldl_setAll us (k + 1) off (vs.set (off + k) u)]
    rfl

def fillX (place : Nat → Option (Nat × Nat)) : List Sc → List (Nat × Sv) → Option (List Sc)
  | cells, [] => some cells
  | cells, (i, v) :: rest => match place i, cellsS v with
    | some (off, size), some cs => bif Nat.beq cs.length size && Nat.ble (off + size) cells.length then fillX place (setAll cells off cs) rest else none
    | _, _ => none

/-- The parts as the run has them. -/
def PartsRel (η : Env) (E : Emb) : List (Nat × Sv) → List (Nat × Value) → Prop
  | [], [] => True
  | (i, s) :: l, (j, v) :: m => i = j ∧ s.den η E = some v ∧ PartsRel η E l m
  | _, _ => False

theorem fillX_run {η : Env} {E : Emb} {place : Nat → Option (Nat × Nat)} : ∀ (ps : List (Nat × Sv)) (qs : List (Nat × Value)) (cells out : List Sc) (vs : List Value), fillX place cells ps = some out → PartsRel η E ps qs → denL η E cells = some vs →
    ∃ us, denL η E out = some us ∧ Instr.fill place vs.toArray qs = some us.toArray
  | [], [], cells, out, vs, h, _, hv => by cases h; exact ⟨vs, hv, rfl⟩
  | [], _ :: _, _, _, _, _, hr, _ => hr.elim
  | (i, s) :: ps, [], _, _, _, _, hr, _ => hr.elim
  | (i, s) :: ps, (j, v) :: qs, cells, out, vs, h, hr, hv => by
    obtain ⟨rfl, hs, hr'⟩ := hr
    simp only [fillX] at h
    split at h
    · rename_i off size cs hp hcs
      cases hc : (Nat.beq cs.length size && Nat.ble (off + size) cells.length) with
      | false => rw [hc] at h; cases h
      | true =>
        rw [hc] at h
        obtain ⟨c1, c2⟩ := and_true2 hc
        have c1 := Nat.eq_of_beq_eq_true c1
        have c2 := Nat.le_of_ble_eq_true c2
        have hcd := cellsS_den hcs hs
        have hlen := denL_length hcd
        have hlen2 := denL_length hv
        have hset := denL_setAll cs (o := off) hv hcd
        obtain ⟨us, h1, h2⟩ := fillX_run ps qs _ out _ h hr' hset
        refine ⟨us, h1, ?_⟩
        rw [Instr.fill]
        simp only [hp]
        have hsz : v.cells.size = size := by rw [← Array.length_toList, hlen, c1]
        have hno : ¬ (v.cells.size ≠ size ∨ off + v.cells.size > vs.toArray.size) := by
          simp only [hsz, ne_eq, not_true_eq_false, false_or, List.size_toArray, hlen2]; omega
        have hf : Array.foldl (fun cs (x : Value × Nat) => cs.setIfInBounds (off + x.2) x.1) vs.toArray v.cells.zipIdx = (setAll vs off v.cells.toList).toArray := by
          rw [← Array.foldl_toList, Array.toList_zipIdx]
          exact foldl_setAll _ 0 off vs
        simp only [Bool.or_eq_true, decide_eq_true_eq, if_neg hno]
        rw [hf]
        exact h2
    · cases h

def placesX (C : Cx) : List Field → Option (List (Nat × Nat))
  | [] => some []
  | f :: fs => match C.tt.get f.type, placesX C fs with
    | some ti, some r => some ((f.offset, ti.size) :: r)
    | _, _ => none
theorem placesX_eq {C : Cx} {P : Program} {η : Env} (hC : C.Ok P η) : ∀ {fs : List Field} {r}, placesX C fs = some r → fs.mapM (fun f => (P.info? f.type).map fun i => (f.offset, i.size)) = some r
  | [], r, h => by cases h; rfl
  | f :: fs, r, h => by
    simp only [placesX] at h
    split at h
    · rename_i ti r' hti hr
      cases h
      obtain ⟨i, z, h1, h2, _⟩ := (hC.tt f.type ti hti).inf
      simp [List.mapM_cons, h1, h2, placesX_eq hC hr]
    · cases h

def buildX (C : Cx) (t : TypeId) (parts : List (Nat × Sv)) : Option Sv :=
  match C.tt.get t with
  | some ti => match ti.d with
    | .struct fs => match placesX C fs.toList with
      | some pl => (fillX (nth pl) ti.zero parts).map .agg
      | none => none
    | .array _ e => match C.tt.get e with
      | some ei => (fillX (fun i => some (i * ei.size, ei.size)) ti.zero parts).map .agg
      | none => none
    | _ => none
  | none => none

theorem buildX_run {C : Cx} {P : Program} {η : Env} {E : Emb} (hC : C.Ok P η) {t : TypeId} {parts : List (Nat × Sv)} {qs : Array (Nat × Value)} {sv : Sv} (h : buildX C t parts = some sv) (hr : PartsRel η E parts qs.toList) :
    ∃ v, sv.den η E = some v ∧ ∀ w, (Instr.build t qs).run P w = .ok v w := by
  unfold buildX at h
  split at h
  · rename_i ti hti
    have hT := hC.tt t ti hti
    have hu := hT.und
    obtain ⟨i, z, h1, h2, h3, h4, h5, _⟩ := hT.inf
    split at h
    · rename_i fs hd
      rw [hd] at hu
      split at h
      · rename_i pl hpl
        simp only [Option.map_eq_some_iff] at h
        obtain ⟨out, ho, rfl⟩ := h
        obtain ⟨us, g1, g2⟩ := fillX_run parts qs.toList ti.zero out _ ho hr (h5 η E)
        refine ⟨.agg us.toArray, by simp [Sv.den, g1], fun w => run_build w t qs us.toArray ?_⟩
        have hpl' := placesX_eq hC hpl
        have e : (fun x => (pl.toArray[x]? : Option (Nat × Nat))) = nth pl := funext fun x => by rw [nth_eq]; simp
        simp only [Program.built, h1, hu, h4, hpl', e]
        simpa using g2
      · cases h
    · rename_i n e hd
      rw [hd] at hu
      split at h
      · rename_i ei hei
        simp only [Option.map_eq_some_iff] at h
        obtain ⟨out, ho, rfl⟩ := h
        obtain ⟨us, g1, g2⟩ := fillX_run parts qs.toList ti.zero out _ ho hr (h5 η E)
        refine ⟨.agg us.toArray, by simp [Sv.den, g1], fun w => run_build w t qs us.toArray ?_⟩
        obtain ⟨i', z', k1, k2, _⟩ := (hC.tt e ei hei).inf
        simp only [Program.built, h1, hu, h4, k1, k2]
        simpa using g2
      · cases h
    · cases h
  · cases h

/-! ## Tuples -/
def extractX (x : Sv) (i : Nat) : Option Sv :=
  match x with
  | .tup l => match nth l i with
    | some (true, l) => some (.agg l)
    | some (false, [c]) => some (.one c)
    | _ => none
  | _ => none
theorem denParts_nth {η : Env} {E : Emb} : ∀ {l : List (Bool × List Sc)} {vs : List Value} {i : Nat} {p}, denParts η E l = some vs → l[i]? = some p → ∃ v, denPart η E p = some v ∧ vs[i]? = some v
  | [], vs, i, p, _, hp => by simp at hp
  | q :: l, vs, i, p, h, hp => by
    simp only [denParts] at h
    cases h1 : denPart η E q with
    | none => simp [h1] at h
    | some v =>
      cases h2 : denParts η E l with
      | none => simp [h1, h2] at h
      | some us =>
        simp [h1, h2] at h
        subst h
        cases i with
        | zero => simp at hp; subst hp; exact ⟨v, h1, rfl⟩
        | succ i => simp at hp; simpa using denParts_nth h2 hp
theorem extractX_run {P : Program} {η : Env} {E : Emb} {x sv : Sv} {i : Nat} {va : Value} (h : extractX x i = some sv) (hx : x.den η E = some va) : ∃ v, sv.den η E = some v ∧ ∀ w, (Instr.extract va i).run P w = .ok v w := by
  unfold extractX at h
  split at h
  · rename_i l
    simp only [Sv.den, Option.map_eq_some_iff] at hx
    obtain ⟨vs, hvs, rfl⟩ := hx
    split at h
    · rename_i l' hn
      cases h
      rw [nth_eq] at hn
      obtain ⟨v, h1, h2⟩ := denParts_nth hvs hn
      exact ⟨v, h1, fun w => by simp [Instr.extract, h2]⟩
    · rename_i c hn
      cases h
      rw [nth_eq] at hn
      obtain ⟨v, h1, h2⟩ := denParts_nth hvs hn
      exact ⟨v, h1, fun w => by simp [Instr.extract, h2]⟩
    · cases h
  · cases h

/-! ## Built-in functions that leave memory alone -/
def maxX (C : Cx) (gt : Bool) (k : IntKind) (x y : Ix) (pc : PC) : Tree (Sv × PC) :=
  match x, y, gt, k with
  | .poly p, .poly q, true, .i64 => match pplus p q with
    | [] => .leaf (.one (.int .i64 (.abs p)), pc)
    | _ => .fail
  | x, y, true, k => (ltX C.D k x y pc).bind fun r => branch C.D r.2 r.1 fun b pc => .leaf (.one (.int k (bif b then y else x)), pc)
  | x, y, false, k => (ltX C.D k y x pc).bind fun r => branch C.D r.2 r.1 fun b pc => .leaf (.one (.int k (bif b then y else x)), pc)

def builtinX (C : Cx) (hp : T Blk) (b : Builtin) (ts : List TypeId) (args : List Sv) (pc : PC) : Tree (Sv × PC) :=
  match b, args with
  | .real, [.one (.cpx k a _)] => .leaf (.one (.flt k a), pc)
  | .imag, [.one (.cpx k _ b)] => .leaf (.one (.flt k b), pc)
  | .complex, [.one (.flt k a), .one (.flt k' b)] => bif decide (k = k') then .leaf (.one (.cpx k a b), pc) else .fail
  | .max, [.one (.int k x), .one (.int k' y)] => bif decide (k = k') then maxX C true k x y pc else .fail
  | .min, [.one (.int k x), .one (.int k' y)] => bif decide (k = k') then maxX C false k x y pc else .fail
  | .len, [x] => match ts with
    | [t] => match C.tt.get t with
      | some ti => match ti.d, x with
        | .string, .one (.str l) => .leaf (.one (.int .i64 (.lit (.ofNat l.length))), pc)
        | .array n _, _ => .leaf (.one (.int .i64 (.lit (.ofNat n))), pc)
        | .slice _, .one (.slice none n (.known _)) => .leaf (.one (.int .i64 (.lit (.ofNat n))), pc)
        | .slice _, .one (.slice (some _) n _) => .leaf (.one (.int .i64 (.lit (.ofNat n))), pc)
        | .slice _, .one (.asl _ (.lit (.ofNat n)) _) => .leaf (.one (.int .i64 (.lit (.ofNat n))), pc)
        | .slice _, .one (.asl _ (.poly p) _) => match C.D.dec pc (.pos (pneg p)) with
          | some false => bif C.D.fits pc p then .leaf (.one (.int .i64 (.poly p)), pc) else .fail
          | _ => .fail
        | .map _ _, .one (.map none) => .leaf (.one (.int .i64 (.lit 0)), pc)
        | .map _ _, .one (.map (some b)) => match hp.get b with
          | some (.map es _) => .leaf (.one (.int .i64 (.lit (.ofNat es.length))), pc)
          | _ => .fail
        | _, _ => .fail
      | none => .fail
    | _ => .fail
  | _, _ => .fail

theorem denArgs_cons {η : Env} {E : Emb} {c : Sv} {l : List Sv} {r : List Value} (h : denArgs η E (c :: l) = some r) : ∃ v vs, c.den η E = some v ∧ denArgs η E l = some vs ∧ r = v :: vs := by
  simp only [denArgs] at h
  cases h1 : c.den η E with
  | none => simp [h1] at h
  | some v =>
    cases h2 : denArgs η E l with
    | none => simp [h1, h2] at h
    | some vs => simp [h1, h2] at h; exact ⟨v, vs, rfl, rfl, h.symm⟩
theorem denArgs_nil {η : Env} {E : Emb} {r : List Value} (h : denArgs η E [] = some r) : r = [] := by cases h; rfl

theorem denEnts_length {η : Env} {E : Emb} : ∀ {l : List MEnt} {vs : List MapEntry}, denEnts η E l = some vs → vs.length = l.length
  | [], vs, h => by cases h; rfl
  | m :: l, vs, h => by
    simp only [denEnts] at h
    split at h
    · rename_i h3; cases h; simp [denEnts_length h3]
    · cases h

theorem maxX_run {C : Cx} {P : Program} {η : Env} {E : Emb} (hC : C.Ok P η) {gt : Bool} {k : IntKind} {x y : Ix} {pc pc' : PC} {sv : Sv} (hpc : pc.holds η) (h : (maxX C gt k x y pc).at_ η = some (sv, pc')) :
    pc'.holds η ∧ sv.den η E = some (.int k (if gt then (if y.den η > x.den η then y.den η else x.den η) else (if y.den η < x.den η then y.den η else x.den η))) := by
  unfold maxX at h
  split at h
  · rename_i p q
    split at h
    · rename_i hpq
      simp only [Tree.at_, Option.some.injEq, Prod.mk.injEq] at h
      obtain ⟨rfl, rfl⟩ := h
      refine ⟨hpc, ?_⟩
      have e := evP_pplus η.i p q
      rw [hpq] at e
      simp only [evP] at e
      have e' : evP η.i q = -(evP η.i p) := by omega
      simp [Sv.den, Sc.den, Ix.den, e']
    · cases h
  · obtain ⟨⟨b, pc1⟩, h1, h2⟩ := Tree.at_bind h
    obtain ⟨h3, h4⟩ := ltX_den hC.D hpc h1
    obtain ⟨pc2, hp2, h5⟩ := at_branch hC.D h4 h2
    simp only [Tree.at_, Option.some.injEq, Prod.mk.injEq] at h5
    obtain ⟨rfl, rfl⟩ := h5
    refine ⟨hp2, ?_⟩
    rw [h3]
    by_cases hc : x.den η < y.den η <;> simp [Sv.den, Sc.den, hc]
  · obtain ⟨⟨b, pc1⟩, h1, h2⟩ := Tree.at_bind h
    obtain ⟨h3, h4⟩ := ltX_den hC.D hpc h1
    obtain ⟨pc2, hp2, h5⟩ := at_branch hC.D h4 h2
    simp only [Tree.at_, Option.some.injEq, Prod.mk.injEq] at h5
    obtain ⟨rfl, rfl⟩ := h5
    refine ⟨hp2, ?_⟩
    rw [h3]
    by_cases hc : y.den η < x.den η <;> simp [Sv.den, Sc.den, hc]

theorem builtinX_run {C : Cx} {P : Program} {η : Env} {E : Emb} (hC : C.Ok P η) {hp : T Blk} {nx lo base : Nat} {w : World} (hH : HRel η E hp nx lo base w) {b : Builtin} {ts : Array TypeId} {args : List Sv} {vs : List Value} {pc pc' : PC} {sv : Sv}
    (hpc : pc.holds η) (h : (builtinX C hp b ts.toList args pc).at_ η = some (sv, pc')) (ha : denArgs η E args = some vs) (ty : TypeId) (cs : Array Bool) :
    pc'.holds η ∧ ∃ v, sv.den η E = some v ∧ (builtin b ts ty cs vs.toArray).run P w = .ok (.value v) w := by
  unfold builtinX at h
  split at h
  · obtain ⟨v, us, h1, h2, rfl⟩ := denArgs_cons ha
    cases denArgs_nil h2; cases h1
    simp only [Tree.at_, Option.some.injEq, Prod.mk.injEq] at h
    obtain ⟨rfl, rfl⟩ := h
    exact ⟨hpc, _, rfl, rfl⟩
  · obtain ⟨v, us, h1, h2, rfl⟩ := denArgs_cons ha
    cases denArgs_nil h2; cases h1
    simp only [Tree.at_, Option.some.injEq, Prod.mk.injEq] at h
    obtain ⟨rfl, rfl⟩ := h
    exact ⟨hpc, _, rfl, rfl⟩
  · rename_i k a k' b'
    obtain ⟨v, us, h1, h2, rfl⟩ := denArgs_cons ha
    obtain ⟨u, us', h3, h4, rfl⟩ := denArgs_cons h2
    cases denArgs_nil h4; cases h1; cases h3
    by_cases hk : k = k'
    · subst hk
      simp only [decide_true, cond_true, Tree.at_, Option.some.injEq, Prod.mk.injEq] at h
      obtain ⟨rfl, rfl⟩ := h
      refine ⟨hpc, _, rfl, ?_⟩
      obtain ⟨msg, e⟩ : ∃ msg, Builtin.complex_ ts ty #[.float k (a.den η), .float k (b'.den η)] = (if k = k then pure (.complex k (a.den η) (b'.den η)) else stuck msg : Sem Value) := ⟨_, rfl⟩
      simp only [builtin, e, if_true]; rfl
    · simp [hk, Tree.at_] at h
  · rename_i k x k' y
    obtain ⟨v, us, h1, h2, rfl⟩ := denArgs_cons ha
    obtain ⟨u, us', h3, h4, rfl⟩ := denArgs_cons h2
    cases denArgs_nil h4; cases h1; cases h3
    by_cases hk : k = k'
    · subst hk
      simp only [decide_true, cond_true] at h
      obtain ⟨g1, g2⟩ := maxX_run (E := E) hC hpc h
      exact ⟨g1, _, g2, by simp [builtin, Builtin.max_, Builtin.max2]⟩
    · simp [hk, Tree.at_] at h
  · rename_i k x k' y
    obtain ⟨v, us, h1, h2, rfl⟩ := denArgs_cons ha
    obtain ⟨u, us', h3, h4, rfl⟩ := denArgs_cons h2
    cases denArgs_nil h4; cases h1; cases h3
    by_cases hk : k = k'
    · subst hk
      simp only [decide_true, cond_true] at h
      obtain ⟨g1, g2⟩ := maxX_run (E := E) hC hpc h
      exact ⟨g1, _, g2, by simp [builtin, Builtin.min_, Builtin.min2]⟩
    · simp [hk, Tree.at_] at h
  · rename_i x
    obtain ⟨v, us, h1, h2, rfl⟩ := denArgs_cons ha
    cases denArgs_nil h2
    split at h
    · rename_i t hts
      have et : ts = #[t] := by cases ts; simp at hts; simp [hts]
      subst et
      split at h
      · rename_i ti hti
        have hu := (hC.tt t ti hti).und
        split at h
        · rename_i l hd; rw [hd] at hu
          cases h1
          simp only [Tree.at_, Option.some.injEq, Prod.mk.injEq] at h
          obtain ⟨rfl, rfl⟩ := h
          exact ⟨hpc, _, rfl, by
            have es : (⟨l.toArray⟩ : ByteArray).size = l.length := List.size_toArray ..
            simp [builtin, Builtin.len_, run_underlying hu, goInt, es, Ix.den]⟩
        · rename_i hd; rw [hd] at hu
          simp only [Tree.at_, Option.some.injEq, Prod.mk.injEq] at h
          obtain ⟨rfl, rfl⟩ := h
          exact ⟨hpc, _, rfl, by cases v <;> simp [builtin, Builtin.len_, run_underlying hu, goInt, Ix.den]⟩
        · rename_i hd; rw [hd] at hu
          cases h1
          simp only [Tree.at_, Option.some.injEq, Prod.mk.injEq] at h
          obtain ⟨rfl, rfl⟩ := h
          exact ⟨hpc, _, rfl, by simp [builtin, Builtin.len_, run_underlying hu, goInt, Ix.den]⟩
        · rename_i a n c hd; rw [hd] at hu
          obtain ⟨b', o⟩ := a
          obtain ⟨B, K, m, _, rfl, _⟩ := slice_den h1
          simp only [Tree.at_, Option.some.injEq, Prod.mk.injEq] at h
          obtain ⟨rfl, rfl⟩ := h
          exact ⟨hpc, _, rfl, by simp [builtin, Builtin.len_, run_underlying hu, goInt, Ix.den]⟩
        · rename_i b' n c hd; rw [hd] at hu
          obtain ⟨B, K, _, rfl⟩ := asl_den h1
          simp only [Tree.at_, Option.some.injEq, Prod.mk.injEq] at h
          obtain ⟨rfl, rfl⟩ := h
          exact ⟨hpc, _, rfl, by simp [builtin, Builtin.len_, run_underlying hu, goInt, Ix.den]⟩
        · rename_i b' q c hd; rw [hd] at hu
          obtain ⟨B, K, _, rfl⟩ := asl_den h1
          split at h
          · rename_i hdec
            cases hf : C.D.fits pc q with
            | false => rw [hf] at h; cases h
            | true =>
              rw [hf] at h
              simp only [cond_true, Tree.at_, Option.some.injEq, Prod.mk.injEq] at h
              obtain ⟨rfl, rfl⟩ := h
              have h1 := hC.D.dec pc _ _ hdec hpc
              have h2 := hC.D.fits pc q hf hpc
              simp only [Atom.den, evP_pneg] at h1
              have h1 := of_decide_eq_false h1
              have e : ((Ix.poly q).den η).toNat = (Ix.poly q).den η := by
                simp only [Ix.den, h2]; omega
              exact ⟨hpc, _, rfl, by simp [builtin, Builtin.len_, run_underlying hu, goInt]; omega⟩
          · cases h
        · rename_i hd; rw [hd] at hu
          cases h1
          simp only [Tree.at_, Option.some.injEq, Prod.mk.injEq] at h
          obtain ⟨rfl, rfl⟩ := h
          exact ⟨hpc, _, rfl, by simp [builtin, Builtin.len_, run_underlying hu, goInt, Ix.den]⟩
        · rename_i hd; rw [hd] at hu
          split at h
          · rename_i b' es ck hb
            obtain ⟨B, K, hE, xs, g1, g2⟩ := hH.cell _ _ hb
            simp only [Sv.den, Sc.den, hE, Option.map_some, Option.some.injEq] at h1
            subst h1
            simp only [Tree.at_, Option.some.injEq, Prod.mk.injEq] at h
            obtain ⟨rfl, rfl⟩ := h
            refine ⟨hpc, _, rfl, ?_⟩
            have hg : (getObj B).run P w = .ok (.map xs.toArray ck) w := by simp [getObj, Sem.run, g2]
            simp [builtin, Builtin.len_, run_underlying hu, goInt, hg, Ix.den, denEnts_length g1]
          · cases h
        · cases h
      · cases h
    · cases h
  · cases h

end
end Go.Ex


namespace Go.Ex
open Go Go.RowKit
noncomputable section

def evL (tm : T Sv) : List Operand → Option (List Sv)
  | [] => some []
  | x :: l => match evX tm x, evL tm l with
    | some s, some r => some (s :: r)
    | _, _ => none
def evParts (tm : T Sv) : List (Nat × Operand) → Option (List (Nat × Sv))
  | [] => some []
  | (i, x) :: l => match evX tm x, evParts tm l with
    | some s, some r => some ((i, s) :: r)
    | _, _ => none
def evO (tm : T Sv) : Option Operand → Option (Option Sv)
  | none => some none
  | some x => match evX tm x with
    | some s => some (some s)
    | none => none

theorem evL_den {η : Env} {E : Emb} {tm : T Sv} {a : Act} : ∀ {l : List Operand} {r}, (∀ x ∈ l, ORel η E tm a x) → evL tm l = some r → denArgs η E r = some (l.map a.eval)
  | [], r, _, h => by cases h; rfl
  | x :: l, r, hx, h => by
    simp only [evL] at h
    split at h
    · rename_i s r' h1 h2
      cases h
      have e1 := hx x (List.mem_cons_self ..) s h1
      have e2 := evL_den (fun y hy => hx y (List.mem_cons_of_mem _ hy)) h2
      simp [denArgs, e1, e2]
    · cases h
theorem evParts_rel {η : Env} {E : Emb} {tm : T Sv} {a : Act} : ∀ {l : List (Nat × Operand)} {r}, (∀ p ∈ l, ORel η E tm a p.2) → evParts tm l = some r → PartsRel η E r (l.map fun p => (p.1, a.eval p.2))
  | [], r, _, h => by cases h; trivial
  | (i, x) :: l, r, hx, h => by
    simp only [evParts] at h
    split at h
    · rename_i s r' h1 h2
      cases h
      exact ⟨rfl, hx (i, x) (List.mem_cons_self ..) s h1, evParts_rel (fun y hy => hx y (List.mem_cons_of_mem _ hy)) h2⟩
    · cases h
theorem evO_rel {η : Env} {E : Emb} {tm : T Sv} {a : Act} {o : Option Operand} {r} (hx : ∀ x, o = some x → ORel η E tm a x) (h : evO tm o = some r) : BndRel η E r (o.map a.eval) := by
  cases o with
  | none => cases h; trivial
  | some x =>
    simp only [evO] at h
    split at h
    · rename_i s h1; cases h; exact hx x rfl s h1
    · cases h

def caps : List Sv → Option (List (Nat × Nat))
  | [] => some []
  | .one (.ptr (some a)) :: l => match caps l with
    | some r => some (a :: r)
    | none => none
  | _ => none
theorem caps_den {η : Env} {E : Emb} : ∀ {l : List Sv} {r vs}, caps l = some r → denArgs η E l = some vs → denCaps E r = some vs
  | [], r, vs, h, hv => by cases h; cases hv; rfl
  | s :: l, r, vs, h, hv => by
    obtain ⟨v, us, h1, h2, rfl⟩ := denArgs_cons hv
    unfold caps at h
    split at h
    · rename_i he; cases he
    · rename_i a l' he
      cases he
      split at h
      · rename_i r' hr
        cases h
        obtain ⟨b, o⟩ := a
        obtain ⟨B, K, hE, rfl⟩ := ptr_den h1
        simp [denCaps, denAddr, hE, caps_den hr h2]
      · cases h
    · cases h

def leafO (o : Option Sv) (pc : PC) : Tree (Sv × PC) :=
  match o with
  | some s => .leaf (s, pc)
  | none => .fail
theorem at_leafO {η : Env} {o : Option Sv} {pc pc' : PC} {sv : Sv} (h : (leafO o pc).at_ η = some (sv, pc')) : o = some sv ∧ pc = pc' := by
  cases o with
  | none => cases h
  | some s => simp only [leafO, Tree.at_, Option.some.injEq, Prod.mk.injEq] at h; exact ⟨by rw [h.1], h.2⟩

/-- An operation that leaves memory alone (no call of a Go function). -/
def qop (C : Cx) (hp : T Blk) (tm : T Sv) (pc : PC) (o : Op) : Tree (Sv × PC) :=
  match o with
  | .move x | .assign x => leafO (evX tm x) pc
  | .pick c a b => match evX tm c with
    | some (.one (.bool bx)) => branch C.D pc bx fun t pc => leafO (bif t then evX tm a else evX tm b) pc
    | _ => .fail
  | .load t x => match evX tm x with
    | some s => leafO (loadX C hp t s) pc
    | none => .fail
  | .nilCheck x => match evX tm x with
    | some (.one (.ptr (some a))) => .leaf (.one (.ptr (some a)), pc)
    | some (.one (.fn f cs)) => .leaf (.one (.fn f cs), pc)
    | _ => .fail
  | .binOp op t x y _ => match evX tm x, evX tm y with
    | some a, some b => binX C op t a b pc
    | _, _ => .fail
  | .unOp op _ x => match evX tm x with
    | some s => leafO (unX op s) pc
    | none => .fail
  | .convert s d x => match evX tm x with
    | some a => leafO (convX C s d a pc) pc
    | none => .fail
  | .fieldAddr t x f => match evX tm x with
    | some s => leafO (fieldAddrX C t s f) pc
    | none => .fail
  | .indexAddr t x i => match evX tm x, evX tm i with
    | some a, some b => leafO (indexAddrX C t a b) pc
    | _, _ => .fail
  | .field t x f => match evX tm x with
    | some s => leafO (fieldX C t s f) pc
    | none => .fail
  | .index t x i => match evX tm x, evX tm i with
    | some a, some b => leafO (indexX C t a b) pc
    | _, _ => .fail
  | .slice t x lo hi none => match evX tm x, evO tm lo, evO tm hi with
    | some a, some l, some h => leafO (sliceX C t a l h) pc
    | _, _, _ => .fail
  | .build t ps => match evParts tm ps.toList with
    | some l => leafO (buildX C t l) pc
    | none => .fail
  | .extract x i => match evX tm x with
    | some s => leafO (extractX s i) pc
    | none => .fail
  | .makeFunc (.func f) first captured => match first.toList, evL tm captured.toList with
    | [], some l => match caps l with
      | some cs => .leaf (.one (.fn f cs), pc)
      | none => .fail
    | _, _ => .fail
  | .call c => match c.callee, evL tm c.args.toList with
    | .builtin b, some l => builtinX C hp b c.argTypes.toList l pc
    | _, _ => .fail
  | _ => .fail

theorem valueOf {P : Program} {w : World} {s : Sem Value} {v : Value} (h : s.run P w = .ok v w) : (do pure (Next.value (← s)) : Sem Next).run P w = .ok (.value v) w := by
  simp [h]

theorem qop_run {C : Cx} {P : Program} {η : Env} {E : Emb} (hC : C.Ok P η) {hp : T Blk} {nx lo base : Nat} {w : World} (hH : HRel η E hp nx lo base w) {tm : T Sv} {a : Act} {pc pc' : PC} {o : Oper} {sv : Sv}
    (hpc : pc.holds η) (hx : ∀ x ∈ o.op.operands, ORel η E tm a x) (h : (qop C hp tm pc o.op).at_ η = some (sv, pc')) :
    pc'.holds η ∧ ∃ v, sv.den η E = some v ∧ (execOp a.eval o).run P w = .ok (.value v) w := by
  obtain ⟨dst, op, type, pos, after, guard⟩ := o
  simp only at hx h
  unfold qop at h
  split at h
  · rename_i x
    obtain ⟨h1, rfl⟩ := at_leafO h
    exact ⟨hpc, _, hx x (by simp [Op.operands]) _ h1, rfl⟩
  · rename_i x
    obtain ⟨h1, rfl⟩ := at_leafO h
    exact ⟨hpc, _, hx x (by simp [Op.operands]) _ h1, rfl⟩
  · rename_i c x y
    split at h
    · rename_i bx hb
      obtain ⟨pc1, hp1, h1⟩ := at_branch hC.D hpc h
      obtain ⟨h2, rfl⟩ := at_leafO h1
      have ec := hx c (by simp [Op.operands]) _ hb
      simp only [Sv.den, Sc.den, Option.some.injEq] at ec
      refine ⟨hp1, ?_⟩
      cases hbd : bx.den η with
      | true =>
        rw [hbd] at h2 ec
        exact ⟨_, hx x (by simp [Op.operands]) _ h2, by simp [execOp, ← ec, asBool]⟩
      | false =>
        rw [hbd] at h2 ec
        exact ⟨_, hx y (by simp [Op.operands]) _ h2, by simp [execOp, ← ec, asBool]⟩
    · cases h
  · rename_i t x
    split at h
    · rename_i s hs
      obtain ⟨h1, rfl⟩ := at_leafO h
      obtain ⟨v, h2, h3⟩ := loadX_run hC hH h1 (hx x (by simp [Op.operands]) _ hs)
      exact ⟨hpc, v, h2, valueOf h3⟩
    · cases h
  · rename_i x
    split at h
    · rename_i c hs
      have e := hx x (by simp [Op.operands]) _ hs
      simp only [Tree.at_, Option.some.injEq, Prod.mk.injEq] at h
      obtain ⟨rfl, rfl⟩ := h
      obtain ⟨b, o⟩ := c
      obtain ⟨B, K, _, ev⟩ := ptr_den e
      exact ⟨hpc, _, e, by simp [execOp, ev]⟩
    · rename_i f cs hs
      have e := hx x (by simp [Op.operands]) _ hs
      simp only [Tree.at_, Option.some.injEq, Prod.mk.injEq] at h
      obtain ⟨rfl, rfl⟩ := h
      refine ⟨hpc, _, e, ?_⟩
      simp only [Sv.den, Sc.den, Option.map_eq_some_iff] at e
      obtain ⟨l, _, ev⟩ := e
      simp [execOp, ← ev]
    · cases h
  · rename_i op t x y yt
    split at h
    · rename_i s1 s2 hs1 hs2
      obtain ⟨h1, v, h2, h3⟩ := binX_run hC hpc h (hx x (by simp [Op.operands]) _ hs1) (hx y (by simp [Op.operands]) _ hs2) x y
      exact ⟨h1, v, h2, valueOf (h3 w)⟩
    · cases h
  · rename_i op t x
    split at h
    · rename_i s hs
      obtain ⟨h1, rfl⟩ := at_leafO h
      obtain ⟨v, h2, h3⟩ := unX_run (P := P) h1 (hx x (by simp [Op.operands]) _ hs)
      exact ⟨hpc, v, h2, valueOf (h3 w)⟩
    · cases h
  · rename_i s d x
    split at h
    · rename_i s' hs
      obtain ⟨h1, rfl⟩ := at_leafO h
      obtain ⟨v, h2, h3⟩ := convX_run hC hpc h1 (hx x (by simp [Op.operands]) _ hs)
      exact ⟨hpc, v, h2, valueOf (h3 w)⟩
    · cases h
  · rename_i t x f
    split at h
    · rename_i s hs
      obtain ⟨h1, rfl⟩ := at_leafO h
      obtain ⟨v, h2, h3⟩ := fieldAddrX_run hC h1 (hx x (by simp [Op.operands]) _ hs)
      exact ⟨hpc, v, h2, valueOf (h3 w)⟩
    · cases h
  · rename_i t x i
    split at h
    · rename_i s1 s2 hs1 hs2
      obtain ⟨h1, rfl⟩ := at_leafO h
      obtain ⟨v, h2, h3⟩ := indexAddrX_run hC h1 (hx x (by simp [Op.operands]) _ hs1) (hx i (by simp [Op.operands]) _ hs2)
      exact ⟨hpc, v, h2, valueOf (h3 w)⟩
    · cases h
  · rename_i t x f
    split at h
    · rename_i s hs
      obtain ⟨h1, rfl⟩ := at_leafO h
      obtain ⟨v, h2, h3⟩ := fieldX_run hC h1 (hx x (by simp [Op.operands]) _ hs)
      exact ⟨hpc, v, h2, valueOf (h3 w)⟩
    · cases h
  · rename_i t x i
    split at h
    · rename_i s1 s2 hs1 hs2
      obtain ⟨h1, rfl⟩ := at_leafO h
      obtain ⟨v, h2, h3⟩ := indexX_run hC h1 (hx x (by simp [Op.operands]) _ hs1) (hx i (by simp [Op.operands]) _ hs2)
      exact ⟨hpc, v, h2, valueOf (h3 w)⟩
    · cases h
  · rename_i t x lo' hi'
    split at h
    · rename_i s l h' hs hl hh
      obtain ⟨h1, rfl⟩ := at_leafO h
      obtain ⟨v, h2, h3⟩ := sliceX_run hC h1 (hx x (by simp [Op.operands]) _ hs) (evO_rel (fun y hy => hx y (by simp [Op.operands, hy])) hl) (evO_rel (fun y hy => hx y (by simp [Op.operands, hy])) hh)
      exact ⟨hpc, v, h2, valueOf (h3 w)⟩
    · cases h
  · rename_i t ps
    split at h
    · rename_i l hl
      obtain ⟨h1, rfl⟩ := at_leafO h
      have hr := evParts_rel (fun p hp => hx p.2 (by simp [Op.operands]; exact ⟨p.1, by simpa using hp⟩)) hl
      have hr' : PartsRel η E l (ps.map fun (i, x) => (i, a.eval x)).toList := by simpa using hr
      obtain ⟨v, h2, h3⟩ := buildX_run hC h1 hr'
      exact ⟨hpc, v, h2, valueOf (h3 w)⟩
    · cases h
  · rename_i x i
    split at h
    · rename_i s hs
      obtain ⟨h1, rfl⟩ := at_leafO h
      obtain ⟨v, h2, h3⟩ := extractX_run (P := P) h1 (hx x (by simp [Op.operands]) _ hs)
      exact ⟨hpc, v, h2, valueOf (h3 w)⟩
    · cases h
  · rename_i f first captured
    split at h
    · rename_i l hf hl
      split at h
      · rename_i cs hcs
        simp only [Tree.at_, Option.some.injEq, Prod.mk.injEq] at h
        obtain ⟨rfl, rfl⟩ := h
        have e := evL_den (fun x hm => hx x (by simp [Op.operands]; exact .inr (by simpa using hm))) hl
        have ec := caps_den hcs e
        have ef : first = #[] := by cases first; simp at hf; simp [hf]
        subst ef
        exact ⟨hpc, .func (.func f) #[] (captured.map a.eval), by simp only [Sv.den, Sc.den, ec, Option.map_some]; rw [← Array.toList_map, Array.toArray_toList], by simp [execOp, Instr.makeFunc]⟩
      · cases h
    · cases h
  · rename_i c
    split at h
    · rename_i b l hb hl
      have e := evL_den (fun x hm => hx x (Array.mem_append.2 (.inr (Array.mem_toList_iff.1 hm)))) hl
      obtain ⟨h1, v, h2, h3⟩ := builtinX_run hC hH hpc h e type (c.args.map fun | .const _ => true | _ => false)
      refine ⟨h1, v, h2, ?_⟩
      simp only [execOp, resolve, hb, Sem.run_bind, Sem.run_pure, Result.andThen_ok, invoke]
      have ea : (List.map a.eval c.args.toList).toArray = c.args.map a.eval := by rw [← Array.toList_map, Array.toArray_toList]
      rw [ea] at h3
      exact h3
    · cases h
  · cases h

end
end Go.Ex


namespace Go.Ex
open Go Go.RowKit
noncomputable section

/-! ## New blocks -/
def repS {α : Type} : Nat → List α → List α
  | 0, _ => []
  | n + 1, z => z ++ repS n z

theorem repS_length {α : Type} (z : List α) : ∀ n, (repS n z).length = n * z.length
  | 0 => by simp [repS]
  | n + 1 => by simp [repS, repS_length z n, Nat.succ_mul]; omega
theorem repS_get {α : Type} (z : List α) : ∀ (n j : Nat), j < n * z.length → (repS n z)[j]? = z[j % z.length]?
  | 0, j, h => by simp at h
  | n + 1, j, h => by
    rw [Nat.succ_mul] at h
    simp only [repS]
    by_cases hj : j < z.length
    · rw [List.getElem?_append_left hj, Nat.mod_eq_of_lt hj]
    · rw [List.getElem?_append_right (by omega), repS_get z n (j - z.length) (by omega)]
      congr 1
      rw [Nat.mod_eq_sub_mod (by omega : j ≥ z.length)]
theorem denL_append {η : Env} {E : Emb} : ∀ {l m : List Sc} {vs us : List Value}, denL η E l = some vs → denL η E m = some us → denL η E (l ++ m) = some (vs ++ us)
  | [], m, vs, us, h, h' => by cases h; exact h'
  | c :: l, m, vs, us, h, h' => by
    obtain ⟨v, vs', h1, h2, rfl⟩ := denL_cons h
    simp [denL, h1, denL_append h2 h']
theorem denL_rep {η : Env} {E : Emb} {z : List Sc} {vs : List Value} (h : denL η E z = some vs) : ∀ n, denL η E (repS n z) = some (repS n vs)
  | 0 => rfl
  | n + 1 => denL_append h (denL_rep h n)

theorem made_toList (z : Array Value) (n : Nat) : ((Array.range (n * z.size)).map (z[· % z.size]!)).toList = repS n z.toList := by
  apply List.ext_getElem?
  intro j
  by_cases hj : j < n * z.size
  · have hz : 0 < z.size := by rcases Nat.eq_zero_or_pos z.size with h | h; (rw [h] at hj; simp at hj); exact h
    have hm : j % z.size < z.size := Nat.mod_lt _ hz
    rw [repS_get _ _ _ (by simpa using hj)]
    simp [hj, hm]
  · have h1 : (repS n z.toList).length ≤ j := by rw [repS_length]; simp; omega
    rw [List.getElem?_eq_none h1]
    exact List.getElem?_eq_none (by simp; omega)

/-- A new block: what it holds, its row's length, and what the operation hands back for the block's number. -/
structure New where
  blk : Blk
  K : Nat
  sv : Nat → Sv

def aop (C : Cx) (tm : T Sv) (o : Op) : Option New :=
  match o with
  | .alloc t => match C.tt.get t with
    | some ti => some ⟨.cells t ti.size ti.zero, 1, fun n => .one (.ptr (some (n, 0)))⟩
    | none => none
  | .box t x => match evX tm x with
    | some s => match cellsS s with
      | some cs => some ⟨.cells t cs.length cs, 1, fun n => .one (.ptr (some (n, 0)))⟩
      | none => none
    | none => none
  | .buildSlice t len ps => match C.tt.get t, evParts tm ps.toList with
    | some ti, some parts => match ti.d with
      | .slice e => match C.tt.get e with
        | some ei => bif Nat.ble (len * ei.size) 1000000 && Nat.ble len 1000000 then
            match fillX (fun i => some (i * ei.size, ei.size)) (repS len ei.zero) parts with
            | some cs => some ⟨.cells e ei.size cs, len, fun n => .one (.slice (some (n, 0)) len (.rest 0))⟩
            | none => none
          else none
        | none => none
      | _ => none
    | _, _ => none
  | .makeSlice t l c => match C.tt.get t, evX tm l, evX tm c with
    | some ti, some sl, some sc => match ti.d, litN sl, litN sc with
      | .slice e, some (_, n), some (_, m) => match C.tt.get e with
        | some ei => bif Nat.ble n m && (Nat.ble m 1000000 && Nat.ble ei.bytes 100000) then
            some ⟨.cells e ei.size (repS m ei.zero), m, fun b => .one (.slice (some (b, 0)) n (.rest 0))⟩
          else none
        | none => none
      | _, _, _ => none
    | _, _, _ => none
  | .makeMap _ none => some ⟨.map [] 0, 1, fun n => .one (.map (some n))⟩
  | _ => none

theorem run_newVar {P : Program} (w : World) (t : TypeId) (v : Value) : (newVar t v).run P w = .ok ⟨w.heap.size, 0, none⟩ (w.alloc (.cells v.cells t)) := by
  simp [newVar, newRow]

theorem dens_ptr (η : Env) (E : Emb) (n B K : Nat) : (Sv.one (.ptr (some (n, 0)))).den η (E.set n (B, K)) = some (.pointer (some ⟨B, 0, none⟩)) := by
  simp [Sv.den, Sc.den, denAddr, Emb.set_same]
theorem dens_slice (η : Env) (E : Emb) (n B K l : Nat) (h : l ≤ K) : (Sv.one (.slice (some (n, 0)) l (.rest 0))).den η (E.set n (B, K)) = some (.slice (some ⟨B, 0, none⟩) l K) := by
  simp [Sv.den, Sc.den, Emb.set_same, h]

theorem aop_run {C : Cx} {P : Program} {η : Env} {E : Emb} (hC : C.Ok P η) {w : World} {tm : T Sv} {a : Act} {o : Oper} {r : New}
    (hx : ∀ x ∈ o.op.operands, ORel η E tm a x) (h : aop C tm o.op = some r) :
    ∃ obj v, (execOp a.eval o).run P w = .ok (.value v) (w.alloc obj) ∧ ∀ n, E n = none → r.blk.Rel η (E.set n (w.heap.size, r.K)) r.K (some obj) ∧ (r.sv n).den η (E.set n (w.heap.size, r.K)) = some v := by
  obtain ⟨dst, op, type, pos, after, guard⟩ := o
  simp only at hx h
  unfold aop at h
  split at h
  · rename_i t
    split at h
    · rename_i ti hti
      cases h
      obtain ⟨i, z, h1, h2, h3, h4, h5, h6, _⟩ := (hC.tt t ti hti).inf
      refine ⟨.cells z.cells t, .pointer (some ⟨w.heap.size, 0, none⟩), ?_, fun n hn => ⟨?_, dens_ptr ..⟩⟩
      · simp [execOp, Instr.alloc, zeroValue, typeInfo, h1, h4, run_newVar]
      · exact ⟨z.cells, z.cells.toList, [], rfl, by rw [h6]; exact (Nat.one_mul _).symm, by simp [maxLen], h5 _ _, by simp⟩
    · cases h
  · rename_i t x
    split at h
    · rename_i s hs
      split at h
      · rename_i cs hcs
        cases h
        have e := hx x (by simp [Op.operands]) _ hs
        have hc := cellsS_den hcs e
        have hl := denL_length hc
        refine ⟨.cells (a.eval x).cells t, .pointer (some ⟨w.heap.size, 0, none⟩), ?_, fun n hn => ⟨?_, dens_ptr ..⟩⟩
        · simp [execOp, Instr.box, run_newVar]
        · exact ⟨(a.eval x).cells, (a.eval x).cells.toList, [], rfl, by rw [← Array.length_toList, hl]; exact (Nat.one_mul _).symm, by simp [maxLen], denL_mono (Emb.le_set hn) hc, by simp⟩
      · cases h
    · cases h
  · rename_i t len ps
    split at h
    · rename_i ti parts hti hparts
      have hu := (hC.tt t ti hti).und
      split at h
      · rename_i e hd
        rw [hd] at hu
        split at h
        · rename_i ei hei
          cases hc : (Nat.ble (len * ei.size) 1000000 && Nat.ble len 1000000) with
          | false => rw [hc] at h; cases h
          | true =>
            rw [hc] at h
            simp only [cond_true] at h
            obtain ⟨c1, c2⟩ := and_true2 hc
            have c1 := Nat.le_of_ble_eq_true c1
            have c2 := Nat.le_of_ble_eq_true c2
            split at h
            · rename_i cs hcs
              cases h
              have hT := hC.tt e ei hei
              obtain ⟨i, z, h1, h2, h3, h4, h5, h6, _⟩ := hT.inf
              have hr := evParts_rel (fun p hp => hx p.2 (by simp [Op.operands]; exact ⟨p.1, by simpa using hp⟩)) hparts
              obtain ⟨us, g1, g2⟩ := fillX_run parts _ _ cs _ hcs hr (denL_rep (h5 η E) len)
              have hus : us.length = len * ei.size := by
                rw [denL_length g1]
                have : ∀ (ps : List (Nat × Sv)) (c d : List Sc), fillX (fun i => some (i * ei.size, ei.size)) c ps = some d → d.length = c.length := by
                  intro ps
                  induction ps with
                  | nil => intro c d h; cases h; rfl
                  | cons p ps ih =>
                    intro c d h
                    obtain ⟨i, v⟩ := p
                    simp only [fillX] at h
                    split at h
                    · cases hb : (Nat.beq _ _ && Nat.ble _ _ : Bool) with
                      | false => rw [hb] at h; cases h
                      | true => rw [hb] at h; rw [ih _ _ h, setAll_length]
                    · cases h
                rw [this _ _ _ hcs, repS_length, ← denL_length (h5 η E), Array.length_toList, h6]
              have hmade : ((Array.range (len * ei.size)).map (z.cells[· % z.cells.size]!)) = (repS len z.cells.toList).toArray := by
                apply Array.ext'
                rw [← h6]; rw [made_toList]
              refine ⟨.cells us.toArray e, .slice (some ⟨w.heap.size, 0, none⟩) len len, ?_, fun n hn => ⟨?_, dens_slice _ _ _ _ _ _ (Nat.le_refl _)⟩⟩
              · have hno : ¬ len * ei.size > 2 ^ 24 := by omega
                by_cases h0 : len * ei.size = 0
                · have e0 : repS len z.cells.toList = [] := List.eq_nil_of_length_eq_zero (by rw [repS_length, Array.length_toList, h6, h0])
                  rw [e0] at g2
                  simp [execOp, Instr.buildSlice, run_underlying hu, hT.run_size, h0, newRow, g2, Array.range_zero']
                · simp [execOp, Instr.buildSlice, run_underlying hu, hT.run_size, hno, h0, zeroValue, typeInfo, h1, h4, hmade, newRow, g2]
              · exact ⟨us.toArray, us, [], rfl, by simp [hus], by simp only [maxLen]; omega, denL_mono (Emb.le_set hn) g1, by simp⟩
            · cases h
        · cases h
      · cases h
    · cases h
  · rename_i t l c
    split at h
    · rename_i ti sl sc hti hsl hsc
      have hu := (hC.tt t ti hti).und
      split at h
      · rename_i e k1 n k2 m hd hln hlm
        rw [hd] at hu
        split at h
        · rename_i ei hei
          cases hc : (Nat.ble n m && (Nat.ble m 1000000 && Nat.ble ei.bytes 100000)) with
          | false => rw [hc] at h; cases h
          | true =>
            rw [hc] at h; cases h
            obtain ⟨c1, c23⟩ := and_true2 hc
            obtain ⟨c2, c3⟩ := and_true2 c23
            have c1 := Nat.le_of_ble_eq_true c1
            have c2 := Nat.le_of_ble_eq_true c2
            have c3 := Nat.le_of_ble_eq_true c3
            obtain ⟨i, z, h1, h2, h3, h4, h5, h6, _⟩ := (hC.tt e ei hei).inf
            have el := litN_den hln (hx l (by simp [Op.operands]) _ hsl)
            have ec := litN_den hlm (hx c (by simp [Op.operands]) _ hsc)
            refine ⟨.cells (madeCells z.cells (m * i.size)) e, .slice (some ⟨w.heap.size, 0, none⟩) n m, ?_, fun b hn => ⟨?_, dens_slice _ _ _ _ _ _ c1⟩⟩
            · have hb : (i.bytes : Int) * (m : Int) ≤ 281474976710656 := by
                rw [h3]
                have : ei.bytes * m ≤ 100000 * 1000000 := Nat.mul_le_mul c3 c2
                have h' : ((ei.bytes * m : Nat) : Int) ≤ 281474976710656 := by omega
                rwa [Int.natCast_mul] at h'
              have hr := run_make (P := P) w t e i z hu h1 h4 k1 k2 n m (by omega) (by omega) hb (by omega)
              simp only [Int.toNat_natCast] at hr
              simp [execOp, el, ec, hr]
            · refine ⟨_, repS m z.cells.toList, [], rfl, ?_, ?_, denL_mono (Emb.le_set hn) (denL_rep (h5 η E) m), ?_⟩
              · simp [size_madeCells, h2]
              · simp only [maxLen]; omega
              · rw [List.append_nil, h2, ← h6]; exact made_toList z.cells m
        · cases h
      · cases h
    · cases h
  · cases h
    refine ⟨.map #[] 0, .map (some w.heap.size), ?_, fun n hn => ⟨⟨[], rfl, rfl⟩, by simp [Sv.den, Sc.den, Emb.set_same]⟩⟩
    simp [execOp, run_makeMap]
  · cases h

end
end Go.Ex


namespace Go.Ex
open Go Go.RowKit
noncomputable section

/-- w' is w but for block B. -/
structure Only (B : Nat) (w w' : World) : Prop where
  os : w'.os = w.os
  tape : w'.tape = w.tape
  output : w'.output = w.output
  size : w'.heap.size = w.heap.size
  oth : ∀ k, k ≠ B → w'.heap[k]? = w.heap[k]?
theorem Only.refl (B : Nat) (w : World) : Only B w w := ⟨rfl, rfl, rfl, rfl, fun _ _ => rfl⟩
theorem Only.trans {B : Nat} {a b c : World} (h : Only B a b) (k : Only B b c) : Only B a c :=
  ⟨k.os.trans h.os, k.tape.trans h.tape, k.output.trans h.output, k.size.trans h.size, fun i hi => (k.oth i hi).trans (h.oth i hi)⟩
theorem Only.setCell (w : World) (a : Addr) (v : Value) : Only a.block w (w.setCell a v) :=
  ⟨rfl, rfl, rfl, by simp [World.setCell], fun k hk => heap_setCell_other w a k v hk⟩
theorem Only.below {B base : Nat} {w0 w w' : World} (h : Only B w w') (hb : Below base w0 w) (hB : base ≤ B) : Below base w0 w' :=
  hb.trans ⟨h.os, h.tape, h.output, Nat.le_of_eq h.size.symm, fun k hk => h.oth k (by omega)⟩

theorem run_storeCells {P : Program} : ∀ (vs : List Value) (i B o : Nat) (c : Array Value) (e : TypeId) (w : World), w.heap[B]? = some (.cells c e (0, 0)) → o + i + vs.length ≤ c.size → (∀ v ∈ vs, v.oneCell' = true) →
    ∃ w', (storeCells ⟨B, o, none⟩ vs i).run P w = .ok () w' ∧ w'.heap[B]? = some (.cells (setAll c.toList (o + i) vs).toArray e (0, 0)) ∧ Only B w w'
  | [], i, B, o, c, e, w, h, _, _ => ⟨w, rfl, by simpa [setAll] using h, Only.refl _ _⟩
  | v :: vs, i, B, o, c, e, w, h, hl, h1 => by
    simp only [List.length_cons] at hl
    have hc : w.cell? ⟨B, o + i, none⟩ = some (c[o + i]'(by omega)) := by
      rw [cell_of_row w B (o + i) c e (0, 0) h]; simp
    have hf : w.frozen? ⟨B, o + i, none⟩ = false := frozen_of_row w B (o + i) c e h
    have hs : (store ((⟨B, o, none⟩ : Addr).add i) v).run P w = .ok () (w.setCell ⟨B, o + i, none⟩ v) := by
      rw [addr_add, run_store P w _ v _ (h1 v (List.mem_cons_self ..))]
      simp [hc, hf]
    have hh := heap_setCell_same w B (o + i) c e v h
    obtain ⟨w', r1, r2, r3⟩ := run_storeCells (P := P) vs (i + 1) B o (c.setIfInBounds (o + i) v) e (w.setCell ⟨B, o + i, none⟩ v) hh (by simp; omega) (fun u hu => h1 u (List.mem_cons_of_mem _ hu))
    refine ⟨w', ?_, ?_, (Only.setCell w ⟨B, o + i, none⟩ v).trans r3⟩
    · simp only [storeCells, Sem.run_bind, hs, Result.andThen_ok, r1]
    · rw [r2]
      simp only [setAll, Array.toList_setIfInBounds]
      rfl

theorem setAll_append {α : Type} : ∀ (cs vs rest : List α) (o : Nat), o + cs.length ≤ vs.length → setAll (vs ++ rest) o cs = setAll vs o cs ++ rest
  | [], vs, rest, o, _ => rfl
  | c :: cs, vs, rest, o, h => by
    simp only [List.length_cons] at h
    simp only [setAll]
    rw [List.set_append_left _ _ (by omega), setAll_append cs _ rest (o + 1) (by simp; omega)]

def storeX (C : Cx) (tm : T Sv) (hp : T Blk) (lo : Nat) (t : TypeId) (x v : Operand) : Option (T Blk) :=
  match evX tm x, evX tm v, C.tt.get t with
  | some (.one (.ptr (some (b, o)))), some s, some ti => match cellsS s, hp.get b with
    | some cs, some (.cells e sz l) => bif Nat.ble lo b && (Nat.beq cs.length ti.size && Nat.ble (o + cs.length) l.length) then some (hp.set b (some (.cells e sz (setAll l o cs)))) else none
    | _, _ => none
  | _, _, _ => none

/-- The block that a store turns, and what it holds then. -/
def storeB (C : Cx) (tm : T Sv) (hp : T Blk) (lo : Nat) (t : TypeId) (x v : Operand) : Option (Nat × Blk) :=
  match evX tm x, evX tm v, C.tt.get t with
  | some (.one (.ptr (some (b, o)))), some s, some ti => match cellsS s, hp.get b with
    | some cs, some (.cells e sz l) => bif Nat.ble lo b && (Nat.beq cs.length ti.size && Nat.ble (o + cs.length) l.length) then some (b, .cells e sz (setAll l o cs)) else none
    | _, _ => none
  | _, _, _ => none
theorem storeB_sub {C : Cx} {tm : T Sv} {hp hp' : T Blk} {lo : Nat} {t : TypeId} {x v : Operand} {r : Nat × Blk} (hs : ∀ i b, hp.get i = some b → hp'.get i = some b) (h : storeB C tm hp lo t x v = some r) : storeX C tm hp' lo t x v = some (hp'.set r.1 (some r.2)) := by
  unfold storeB at h
  split at h
  · rename_i b o s ti h1 h2 h3
    split at h
    · rename_i cs e sz l h4 h5
      have h6 := hs _ _ h5
      unfold storeX
      simp only [h1, h2, h3, h4, h6]
      cases hc : (Nat.ble lo b && (Nat.beq cs.length ti.size && Nat.ble (o + cs.length) l.length)) with
      | false => rw [hc] at h; cases h
      | true => rw [hc] at h; cases h; rfl
    · cases h
  · cases h
theorem storeB_get {C : Cx} {tm : T Sv} {hp : T Blk} {lo : Nat} {t : TypeId} {x v : Operand} {r : Nat × Blk} (h : storeB C tm hp lo t x v = some r) : ∃ b, hp.get r.1 = some b := by
  unfold storeB at h
  split at h
  · rename_i b o s ti h1 h2 h3
    split at h
    · rename_i cs e sz l h4 h5
      cases hc : (Nat.ble lo b && (Nat.beq cs.length ti.size && Nat.ble (o + cs.length) l.length)) with
      | false => rw [hc] at h; cases h
      | true => rw [hc] at h; cases h; exact ⟨_, h5⟩
    · cases h
  · cases h

theorem cells_one {η : Env} {E : Emb} : ∀ {l : List Sc} {vs : List Value}, denL η E l = some vs → ∀ v ∈ vs, v.oneCell' = true
  | [], vs, h => by cases h; intro v hv; cases hv
  | c :: l, vs, h => by
    obtain ⟨u, us, h1, h2, rfl⟩ := denL_cons h
    intro v hv
    cases hv with
    | head => exact (Sc.den_cells h1).2
    | tail _ hm => exact cells_one h2 v hm

theorem storeX_run {C : Cx} {P : Program} {η : Env} {E : Emb} (hC : C.Ok P η) {hp hp' : T Blk} {nx lo base : Nat} {w w0 : World} (hH : HRel η E hp nx lo base w) (hB : Below base w0 w) {tm : T Sv} {a : Act} {o : Oper} {t : TypeId} {x v : Operand} (ho : o.op = .store t x v)
    (hx : ∀ x ∈ o.op.operands, ORel η E tm a x) (h : storeX C tm hp lo t x v = some hp') :
    ∃ w', (execOp a.eval o).run P w = .ok .skip w' ∧ HRel η E hp' nx lo base w' ∧ Below base w0 w' := by
  obtain ⟨dst, op, type, pos, after, guard⟩ := o
  simp only at ho hx
  subst ho
  unfold storeX at h
  split at h
  · rename_i b o s ti hsx hsv hti
    split at h
    · rename_i cs e sz l hcs hb
      cases hc : (Nat.ble lo b && (Nat.beq cs.length ti.size && Nat.ble (o + cs.length) l.length)) with
      | false => rw [hc] at h; cases h
      | true =>
        rw [hc] at h; cases h
        obtain ⟨c1, c23⟩ := and_true2 hc
        obtain ⟨c2, c3⟩ := and_true2 c23
        have c1 := Nat.le_of_ble_eq_true c1
        have c2 := Nat.eq_of_beq_eq_true c2
        have c3 := Nat.le_of_ble_eq_true c3
        have ex := hx x (by simp [Op.operands]) _ hsx
        have ev := hx v (by simp [Op.operands]) _ hsv
        obtain ⟨B, K, hE, ep⟩ := ptr_den ex
        have hcd := cellsS_den hcs ev
        obtain ⟨B', K', hE', c, vs, rest, h1, h2, h3, h4, h5⟩ := hH.cell b _ hb
        rw [hE] at hE'; cases hE'
        have hlen := denL_length hcd
        have hlv := denL_length h4
        have hsz : c.size = vs.length + rest.length := by rw [← Array.length_toList, h5, List.length_append]
        obtain ⟨w', r1, r2, r3⟩ := run_storeCells (P := P) (a.eval v).cells.toList 0 B o c e w h1 (by omega) (cells_one hcd)
        refine ⟨w', ?_, ?_, r3.below hB (hH.hi b B K c1 hE)⟩
        · have hns : ¬ (a.eval v).cells.size ≠ ti.size := by rw [← Array.length_toList]; omega
          simp [execOp, Instr.storeAt, ep, Instr.sureAddr, storeVar, (hC.tt t ti hti).run_size, hns, r1]
        · refine hH.write hb hE r3.size r3.oth ?_
          refine ⟨_, setAll vs o (a.eval v).cells.toList, rest, r2, ?_, h3, denL_setAll cs h4 hcd, ?_⟩
          · simp [setAll_length, h2]
          · simp only [Nat.add_zero, h5]
            rw [setAll_append _ _ _ _ (by omega)]
    · cases h
  · cases h

/-! ## append -/
/-- The cells of a slice that is appended. -/
def srcX (C : Cx) (hp : T Blk) (e : TypeId) (x : Sv) : Option (List Sc × Nat) :=
  match x with
  | .one (.slice none 0 _) => some ([], 0)
  | .one (.slice (some (b, o)) m _) => match hp.get b, C.tt.get e with
    | some (.cells _ _ l), some ei => match takeN (m * ei.size) (l.drop o) with
      | some cs => some (cs, m)
      | none => none
    | _, _ => none
  | _ => none

structure App where
  hp : T Blk
  sv : Sv

def appendX (C : Cx) (tm : T Sv) (hp : T Blk) (nx lo : Nat) (ts : List TypeId) (args : List Operand) : Option App :=
  match ts, args with
  | [t, t'], [s, x] => bif Nat.beq t t' then match evX tm s, evX tm x, C.tt.get t with
    | some ss, some sx, some ti => match ti.d with
      | .slice e => match C.tt.get e, srcX C hp e sx with
        | some ei, some (news, m) => bif Nat.blt 0 ei.size && (Nat.ble ei.bytes 1000 && Nat.blt 0 m) then
          match ss with
          | .one (.slice none 0 (.known 0)) => bif Nat.ble m 1000000 then some ⟨hp.set nx (some (.cells e ei.size news)), .one (.slice (some (nx, 0)) m (.rest 0))⟩ else none
          | .one (.slice (some (b, 0)) n (.rest 0)) => match hp.get b with
            | some (.cells e' sz l) => bif Nat.ble lo b && (Nat.beq e e' && (Nat.beq sz ei.size && (Nat.beq l.length (n * sz) && Nat.ble (n + m) 1000000))) then
                some ⟨(hp.set b none).set nx (some (.cells e ei.size (l ++ news))), .one (.slice (some (nx, 0)) (n + m) (.rest 0))⟩
              else none
            | _ => none
          | _ => none
          else none
        | _, _ => none
      | _ => none
    | _, _, _ => none
    else none
  | _, _ => none

theorem srcX_den {C : Cx} {η : Env} {E : Emb} {hp : T Blk} {nx lo base : Nat} {w : World} (hH : HRel η E hp nx lo base w) {e : TypeId} {ei : TI} (hei : C.tt.get e = some ei) {x : Sv} {cs : List Sc} {m : Nat} {va : Value} (h : srcX C hp e x = some (cs, m)) (hm : 0 < m) (hx : x.den η E = some va) :
    ∃ A c news, va = .slice (some A) m c ∧ denL η E cs = some news ∧ news.length = m * ei.size ∧ ∀ j u, news[j]? = some u → w.cell? (A.add j) = some u := by
  unfold srcX at h
  split at h
  · cases h; omega
  · rename_i b o m' c
    obtain ⟨B, K, cap, hE, rfl, _⟩ := slice_den hx
    split at h
    · rename_i e' sz l ei' hb hei'
      rw [hei] at hei'; cases hei'
      split at h
      · rename_i cs' ht
        cases h
        obtain ⟨B', K', hE', c, vs, rest, h1, _, _, h4, h5⟩ := hH.cell b _ hb
        rw [hE] at hE'; cases hE'
        obtain ⟨g1, g2⟩ := denL_takeN _ ht (denL_drop o h4)
        refine ⟨_, _, _, rfl, g1, g2, fun j u hj => ?_⟩
        rw [addr_add, cell_of_row w B (o + j) c e' (0, 0) h1, ← Array.getElem?_toList, h5]
        rw [List.getElem?_take] at hj
        split at hj
        · rw [List.getElem?_drop] at hj
          rw [List.getElem?_append_left (List.getElem?_eq_some_iff.1 hj).1]; exact hj
        · cases hj
      · cases h
    · cases h
  · cases h

theorem appendX_run {C : Cx} {P : Program} {η : Env} {E : Emb} (hC : C.Ok P η) {hp : T Blk} {nx lo base : Nat} {w w0 : World} (hH : HRel η E hp nx lo base w) (hB : Below base w0 w) (hlo : lo ≤ nx) {tm : T Sv} {a : Act} {o : Oper} {c : Call} {r : App} (ho : o.op = .call c) (hcal : c.callee = .builtin .append)
    (hx : ∀ x ∈ o.op.operands, ORel η E tm a x) (hnx : nx + 1 ≤ 65000) (h : appendX C tm hp nx lo c.argTypes.toList c.args.toList = some r) :
    ∃ w' v E', (execOp a.eval o).run P w = .ok (.value v) w' ∧ (∀ i, i < nx → E' i = E i) ∧ E.le E' ∧ HRel η E' r.hp (nx + 1) lo base w' ∧ r.sv.den η E' = some v ∧ Below base w0 w' := by
  obtain ⟨dst, op, type, pos, after, guard⟩ := o
  simp only at ho hx
  subst ho
  unfold appendX at h
  split at h
  · rename_i t t' s x hts hargs
    have ets : c.argTypes = #[t, t'] := by rw [← Array.toArray_toList (xs := c.argTypes), hts]
    have eargs : c.args = #[s, x] := by rw [← Array.toArray_toList (xs := c.args), hargs]
    have e2 : c.args.map a.eval = #[a.eval s, a.eval x] := by rw [eargs]; simp
    have hexec : (execOp a.eval { dst, op := .call c, type, pos, after, guard }).run P w = (builtin .append #[t, t'] type (c.args.map fun | .const _ => true | _ => false) #[a.eval s, a.eval x]).run P w := by
      simp only [execOp, resolve, hcal, Sem.run_bind, Sem.run_pure, Result.andThen_ok, invoke, ets]
      rw [e2]; rfl
    rw [hexec]
    have hxs := hx s (by simp [Op.operands, Call.operands, eargs])
    have hxx := hx x (by simp [Op.operands, Call.operands, eargs])
    cases htt : Nat.beq t t' with
    | false => rw [htt] at h; cases h
    | true =>
      rw [htt] at h
      have htt := Nat.eq_of_beq_eq_true htt
      subst htt
      simp only [cond_true] at h
      split at h
      · rename_i ss sx ti hss hsx hti
        have hu := (hC.tt t ti hti).und
        split at h
        · rename_i e hd
          rw [hd] at hu
          split at h
          · rename_i ei news m hei hsrc
            cases hc : (Nat.blt 0 ei.size && (Nat.ble ei.bytes 1000 && Nat.blt 0 m)) with
            | false => rw [hc] at h; cases h
            | true =>
              rw [hc] at h
              simp only [cond_true] at h
              obtain ⟨c1, c23⟩ := and_true2 hc
              obtain ⟨c2, c3⟩ := and_true2 c23
              have c1 := Nat.le_of_ble_eq_true c1
              have c2 := Nat.le_of_ble_eq_true c2
              have c3 := Nat.le_of_ble_eq_true c3
              obtain ⟨i, z, i1, i2, i3, i4, i5, i6, _⟩ := (hC.tt e ei hei).inf
              obtain ⟨A, cp, nv, eva, n1, n2, n3⟩ := srcX_den hH hei hsrc c3 (hxx _ hsx)
              rw [eva]
              -- what any append onto an owned row comes to
              have main : ∀ (n : Nat) (xs : List Value) (l : List Sc) (v : Value) (hpb : T Blk), a.eval s = v → w.ownsRow base e ei.size v n xs → denL η E l = some xs → n + m ≤ 1000000 →
                  (∀ i b, hpb.get i = some b → hp.get i = some b) → (∀ B, v.ownBlock = some B → ∀ i b C K, hpb.get i = some b → E i = some (C, K) → C ≠ B) →
                  ∃ w' v' E', (builtin .append #[t, t] type (c.args.map fun | .const _ => true | _ => false) #[a.eval s, .slice (some A) m cp]).run P w = .ok (.value v') w' ∧ (∀ i, i < nx → E' i = E i) ∧ E.le E' ∧
                    HRel η E' (hpb.set nx (some (.cells e ei.size (l ++ news)))) (nx + 1) lo base w' ∧ (Sv.one (.slice (some (nx, 0)) (n + m) (.rest 0))).den η E' = some v' ∧ Below base w0 w' := by
                intro n xs l v hpb hv hown hl hnm hsub hne
                obtain ⟨v', w', g1, g2, g3, g4, g5⟩ := run_append_own_at (P := P) w base t type e i z ei.size ei.bytes hu i1 i4 i2 i3 i6 c1 v n xs hown A m cp nv n2 n3 (cells_one n1) (by simp only [maxLen]; omega)
                  (Nat.le_trans (Nat.mul_le_mul hnm c2) (by decide)) hH.bot
                obtain ⟨k1, k2⟩ := g2
                rcases k2 with ⟨_, k3⟩ | ⟨g, cap, cur, rfl, k4, k5, k6, k7, k8, k9⟩
                · omega
                have hgnew : ∀ i b C K, hpb.get i = some b → E i = some (C, K) → C ≠ g := by
                  intro i b C K hi hE
                  simp only [Value.ownBlock] at g5
                  rcases g5 with g5 | g5
                  · exact hne g g5.symm i b C K hi hE
                  · have := hH.top i C K hE
                    cases g5; omega
                have hfree : E nx = none := hH.free nx (Nat.le_refl _)
                have hle : E.le (E.set nx (g, cap)) := Emb.le_set hfree
                have hcur : cur.toList = (xs ++ nv) ++ cur.toList.drop ((n + m) * ei.size) := by rw [← k9, List.take_append_drop]
                have hold : ∀ i b, hpb.get i = some b → ∃ C K, E i = some (C, K) ∧ b.Rel η E K w'.heap[C]? := by
                  intro i b hi
                  obtain ⟨C, K, hE, hr⟩ := hH.cell i b (hsub i b hi)
                  refine ⟨C, K, hE, ?_⟩
                  rw [g3.block C (hH.top i C K hE) (fun e => hne C e.symm i b C K hi hE rfl)]
                  exact hr
                refine ⟨w', .slice (some ⟨g, 0, none⟩) (n + m) cap, E.set nx (g, cap), ?_, fun i hi => Emb.set_ne _ _ (by omega), hle, ?_, ?_, ?_⟩
                · rw [hv]; simp [builtin, g1]
                · have hget : ∀ i b, (hpb.set nx (some (.cells e ei.size (l ++ news)))).get i = some b → (i = nx ∧ b = .cells e ei.size (l ++ news)) ∨ (i ≠ nx ∧ hpb.get i = some b) := by
                    intro i b hi
                    by_cases hin : i = nx
                    · subst hin
                      rw [T.get_set_same _ _ _ (by omega)] at hi
                      cases hi; exact .inl ⟨rfl, rfl⟩
                    · rw [T.get_set_ne _ _ _ _ (Ne.symm hin)] at hi
                      exact .inr ⟨hin, hi⟩
                  refine ⟨?_, ?_, ?_, ?_, ?_, ?_, ?_, hnx⟩
                  · intro i b hi
                    rcases hget i b hi with ⟨rfl, _⟩ | ⟨_, hi⟩
                    · omega
                    · have := hH.dom i b (hsub i b hi); omega
                  · intro i b hi
                    rcases hget i b hi with ⟨rfl, rfl⟩ | ⟨hin, hi⟩
                    · exact ⟨g, cap, Emb.set_same .., cur, _, _, k5, k8, k7, denL_mono hle (denL_append hl n1), hcur⟩
                    · obtain ⟨C, K, hE, hr⟩ := hold i b hi
                      exact ⟨C, K, by rw [Emb.set_ne _ _ hin]; exact hE, hr.mono hle⟩
                  · intro i j b d B C K L hij hi hj hEi hEj
                    rcases hget i b hi with ⟨ei', _⟩ | ⟨hin, hi'⟩ <;> rcases hget j d hj with ⟨ej', _⟩ | ⟨hjn, hj'⟩
                    · exact absurd (ei'.trans ej'.symm) hij
                    · subst ei'
                      rw [Emb.set_same] at hEi; rw [Emb.set_ne _ _ hjn] at hEj
                      cases hEi
                      exact (hgnew j d C L hj' hEj).symm
                    · subst ej'
                      rw [Emb.set_same] at hEj; rw [Emb.set_ne _ _ hin] at hEi
                      cases hEj
                      exact hgnew i b B K hi' hEi
                    · rw [Emb.set_ne _ _ hin] at hEi; rw [Emb.set_ne _ _ hjn] at hEj
                      exact hH.inj i j b d B C K L hij (hsub i b hi') (hsub j d hj') hEi hEj
                  · intro i B K hi hE
                    by_cases hin : i = nx
                    · subst hin; rw [Emb.set_same] at hE; cases hE; exact k4
                    · rw [Emb.set_ne _ _ hin] at hE; exact hH.hi i B K hi hE
                  · intro i B K hE
                    by_cases hin : i = nx
                    · subst hin; rw [Emb.set_same] at hE; cases hE
                      exact (Array.getElem?_eq_some_iff.1 k5).1
                    · rw [Emb.set_ne _ _ hin] at hE; exact Nat.lt_of_lt_of_le (hH.top i B K hE) g3.size
                  · exact Nat.le_trans hH.bot g3.size
                  · intro i hi
                    rw [Emb.set_ne _ _ (by omega)]; exact hH.free i (by omega)
                · simp [Sv.den, Sc.den, Emb.set_same, k6]
                · refine hB.grown g3 hH.bot (fun k hk => ?_)
                  rw [← hv] at hk
                  rcases hown.2 with ⟨h0, _⟩ | ⟨g', cap', cur', hv', hb', _⟩
                  · rw [hv, h0] at hk; cases hk
                  · rw [hv, hv'] at hk; simp only [Value.ownBlock, Option.some.injEq] at hk; omega
              split at h
              · cases hmm : Nat.ble m 1000000 with
                | false => rw [hmm] at h; cases h
                | true =>
                  rw [hmm] at h; cases h
                  have hmm := Nat.le_of_ble_eq_true hmm
                  have es := hxs _ hss
                  simp only [Sv.den, Sc.den, Option.some.injEq] at es
                  obtain ⟨w', v', E', r1, r2, r3, r4, r5, r6⟩ := main 0 [] [] (.slice none 0 0) hp es.symm (World.ownsRow_nil w base e ei.size) rfl (by omega) (fun _ _ h => h) (fun B hB => by simp [Value.ownBlock] at hB)
                  exact ⟨w', v', E', r1, r2, r3, by simpa using r4, by simpa using r5, r6⟩
              · rename_i b n
                split at h
                · rename_i e' sz l hb
                  cases hcc : (Nat.ble lo b && (Nat.beq e e' && (Nat.beq sz ei.size && (Nat.beq l.length (n * sz) && Nat.ble (n + m) 1000000)))) with
                  | false => rw [hcc] at h; cases h
                  | true =>
                    rw [hcc] at h; cases h
                    obtain ⟨d1, d2⟩ := and_true2 hcc
                    obtain ⟨d2, d3⟩ := and_true2 d2
                    obtain ⟨d3, d4⟩ := and_true2 d3
                    obtain ⟨d4, d5⟩ := and_true2 d4
                    have d1 := Nat.le_of_ble_eq_true d1
                    have d2 := Nat.eq_of_beq_eq_true d2
                    have d3 := Nat.eq_of_beq_eq_true d3
                    have d4 := Nat.eq_of_beq_eq_true d4
                    have d5 := Nat.le_of_ble_eq_true d5
                    subst d2; subst d3
                    have es := hxs _ hss
                    obtain ⟨B, K, cap, hE, ev, _, hcap⟩ := slice_den es
                    obtain ⟨hcap, hnK⟩ := hcap 0 rfl
                    simp only [Nat.sub_zero] at hcap
                    subst hcap
                    obtain ⟨B', K', hE', cc, vs, rest, q1, q2, q3, q4, q5⟩ := hH.cell b _ hb
                    rw [hE] at hE'; cases hE'
                    have hlv := denL_length q4
                    have hown : w.ownsRow base e ei.size (.slice (some ⟨B, 0, none⟩) n cap) n vs :=
                      ⟨by omega, .inr ⟨B, cap, cc, rfl, hH.hi b B cap d1 hE, q1, by omega, q3, q2, by rw [q5, ← d4, ← hlv]; simp⟩⟩
                    have hgetb : ∀ i d, (hp.set b none).get i = some d → i ≠ b ∧ hp.get i = some d := by
                      intro i d hi
                      by_cases hib : i = b
                      · subst hib
                        have := hH.dom i _ hb
                        rw [T.get_set_same _ _ _ (by have := hH.lim; omega)] at hi; cases hi
                      · rw [T.get_set_ne _ _ _ _ (Ne.symm hib)] at hi; exact ⟨hib, hi⟩
                    exact main n vs l (.slice (some ⟨B, 0, none⟩) n cap) (hp.set b none) ev hown q4 d5 (fun i d hi => (hgetb i d hi).2) (fun B'' hB'' i d C K hi hEi => by
                      simp only [Value.ownBlock, Option.some.injEq] at hB''
                      subst hB''
                      obtain ⟨hib, hi'⟩ := hgetb i d hi
                      exact hH.inj i b d _ C B K cap hib hi' hb hEi hE)
                · cases h
              · cases h
          · cases h
        · cases h
      · cases h
  · cases h

end
end Go.Ex

