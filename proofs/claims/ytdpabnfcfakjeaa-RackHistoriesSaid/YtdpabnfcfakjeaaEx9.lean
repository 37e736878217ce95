/-
  The executor's composite values and built-in functions; all operations that leave memory alone, together.
-/
import Derived.Test.YtdpabnfcfakjeaaEx7a

namespace Go.Ex
open Go Go.RowKit
noncomputable section

/-! ## Composite values -/
def cellsS : Sv → Option (List Sc)
  | .one c => some [c]
  | .agg l => some l
  | _ => none
theorem Reads.one {z : Nat → Nat → Option Value} : ∀ {d : FD} {v : Value}, Reads z d v → v.cells = #[v] ∧ v.oneCell' = true
  | .bool _, _, h => by cases h; exact ⟨rfl, rfl⟩
  | .int _ _, _, h => by cases h; exact ⟨rfl, rfl⟩
  | .str _, _, h => by cases h; exact ⟨rfl, rfl⟩
  | .list _ _ _, _, h => by obtain ⟨a, c, rfl, _⟩ := h; exact ⟨rfl, rfl⟩
theorem Sc.den_cells {η : Env} {E : Emb} {c : Sc} {v : Value} (h : c.den η E = some v) : v.cells = #[v] ∧ v.oneCell' = true := by
  cases c with
  | ptr a => cases a with
    | none => cases h; exact ⟨rfl, rfl⟩
    | some a =>
      simp only [Sc.den, Option.map_eq_some_iff] at h
      obtain ⟨x, _, rfl⟩ := h; exact ⟨rfl, rfl⟩
  | slice a n c =>
    cases a with
    | none => cases c <;> simp only [Sc.den] at h <;> first | (cases h; exact ⟨rfl, rfl⟩) | cases h
    | some a =>
      obtain ⟨b, o⟩ := a
      obtain ⟨B, K, m, _, rfl, _⟩ := slice_den (η := η) (E := E) (b := b) (o := o) (n := n) (c := c) (va := v) h
      exact ⟨rfl, rfl⟩
  | map r => cases r with
    | none => cases h; exact ⟨rfl, rfl⟩
    | some b =>
      simp only [Sc.den, Option.map_eq_some_iff] at h
      obtain ⟨x, _, rfl⟩ := h; exact ⟨rfl, rfl⟩
  | fn f caps =>
    simp only [Sc.den, Option.map_eq_some_iff] at h
    obtain ⟨x, _, rfl⟩ := h; exact ⟨rfl, rfl⟩
  | asl b n c =>
    simp only [Sc.den, Option.map_eq_some_iff] at h
    obtain ⟨x, _, rfl⟩ := h; exact ⟨rfl, rfl⟩
  | aptr b o =>
    simp only [Sc.den, Option.map_eq_some_iff] at h
    obtain ⟨x, _, rfl⟩ := h; exact ⟨rfl, rfl⟩
  | fz r d => exact Reads.one (fzDen_some.1 h).2
  | fptr r cs n f i j =>
    obtain ⟨B, o, c, _, _, _, rfl⟩ := fptrDen_some.1 h
    exact ⟨rfl, rfl⟩
  | own b n =>
    simp only [Sc.den] at h
    split at h
    · split at h
      · cases h; exact ⟨rfl, rfl⟩
      · cases h
    · cases h
  | rptr b sz i j =>
    simp only [Sc.den, Option.map_eq_some_iff] at h
    obtain ⟨x, _, rfl⟩ := h; exact ⟨rfl, rfl⟩
  | mown b q i n =>
    simp only [Sc.den] at h
    split at h
    · split at h
      · cases h; exact ⟨rfl, rfl⟩
      · cases h
    · cases h
  | mptr b q i j =>
    simp only [Sc.den, Option.map_eq_some_iff] at h
    obtain ⟨x, _, rfl⟩ := h; exact ⟨rfl, rfl⟩
  | _ => cases h; exact ⟨rfl, rfl⟩

theorem cellsS_den {η : Env} {E : Emb} {x : Sv} {l : List Sc} {va : Value} (h : cellsS x = some l) (hx : x.den η E = some va) : denL η E l = some va.cells.toList := by
  cases x with
  | one c =>
    cases h
    simp only [Sv.den] at hx
    rw [(Sc.den_cells hx).1]
    simp [denL, hx]
  | agg l' => cases h; obtain ⟨vs, h1, rfl⟩ := agg_den hx; simpa [Value.cells] using h1
  | tup l' => cases h
  | undef => cases h

/-- Cells written one after the other. -/
def setAll {α : Type} : List α → Nat → List α → List α
  | l, _, [] => l
  | l, o, c :: cs => setAll (l.set o c) (o + 1) cs

theorem setAll_length {α : Type} : ∀ (cs l : List α) (o : Nat), (setAll l o cs).length = l.length
  | [], l, o => rfl
  | c :: cs, l, o => by simp [setAll, setAll_length cs]

theorem denL_set {η : Env} {E : Emb} : ∀ {l : List Sc} {vs : List Value} {o : Nat} {c : Sc} {v : Value}, denL η E l = some vs → c.den η E = some v → denL η E (l.set o c) = some (vs.set o v)
  | [], vs, o, c, v, h, _ => by cases h; rfl
  | d :: l, vs, 0, c, v, h, hc => by
    obtain ⟨u, us, _, h2, rfl⟩ := denL_cons h
    simp [denL, hc, h2]
  | d :: l, vs, o + 1, c, v, h, hc => by
    obtain ⟨u, us, h1, h2, rfl⟩ := denL_cons h
    simp [denL, h1, denL_set h2 hc]

theorem denL_setAll {η : Env} {E : Emb} : ∀ (cs : List Sc) {l : List Sc} {vs us : List Value} {o : Nat}, denL η E l = some vs → denL η E cs = some us → denL η E (setAll l o cs) = some (setAll vs o us)
  | [], l, vs, us, o, h, hc => by cases hc; exact h
  | c :: cs, l, vs, us, o, h, hc => by
    obtain ⟨u, us', h1, h2, rfl⟩ := denL_cons hc
    exact denL_setAll cs (denL_set h h1) h2

theorem foldl_setAll : ∀ (us : List Value) (k off : Nat) (vs : List Value),
    (us.zipIdx k).foldl (fun cs (x : Value × Nat) => cs.setIfInBounds (off + x.2) x.1) vs.toArray = (setAll vs (off + k) us).toArray
  | [], k, off, vs => rfl
  | u :: us, k, off, vs => by
    simp only [List.zipIdx_cons, List.foldl_cons, setAll]
    rw [List.setIfInBounds_toArray, foldl_setAll us (k + 1) off (vs.set (off + k) u)]
    rfl

def fillX (place : Nat → Option (Nat × Nat)) : List Sc → List (Nat × Sv) → Option (List Sc)
  | cells, [] => some cells
  | cells, (i, v) :: rest => match place i, cellsS v with
    | some (off, size), some cs => bif Nat.beq cs.length size && Nat.ble (off + size) cells.length then fillX place (setAll cells off cs) rest else none
    | _, _ => none

/-- The parts as the run has them. -/
def PartsRel (η : Env) (E : Emb) : List (Nat × Sv) → List (Nat × Value) → Prop
  | [], [] => True
  | (i, s) :: l, (j, v) :: m => i = j ∧ s.den η E = some v ∧ PartsRel η E l m
  | _, _ => False

theorem fillX_run {η : Env} {E : Emb} {place : Nat → Option (Nat × Nat)} : ∀ (ps : List (Nat × Sv)) (qs : List (Nat × Value)) (cells out : List Sc) (vs : List Value), fillX place cells ps = some out → PartsRel η E ps qs → denL η E cells = some vs →
    ∃ us, denL η E out = some us ∧ Instr.fill place vs.toArray qs = some us.toArray
  | [], [], cells, out, vs, h, _, hv => by cases h; exact ⟨vs, hv, rfl⟩
  | [], _ :: _, _, _, _, _, hr, _ => hr.elim
  | (i, s) :: ps, [], _, _, _, _, hr, _ => hr.elim
  | (i, s) :: ps, (j, v) :: qs, cells, out, vs, h, hr, hv => by
    obtain ⟨rfl, hs, hr'⟩ := hr
    simp only [fillX] at h
    split at h
    · rename_i off size cs hp hcs
      cases hc : (Nat.beq cs.length size && Nat.ble (off + size) cells.length) with
      | false => rw [hc] at h; cases h
      | true =>
        rw [hc] at h
        obtain ⟨c1, c2⟩ := and_true2 hc
        have c1 := Nat.eq_of_beq_eq_true c1
        have c2 := Nat.le_of_ble_eq_true c2
        have hcd := cellsS_den hcs hs
        have hlen := denL_length hcd
        have hlen2 := denL_length hv
        have hset := denL_setAll cs (o := off) hv hcd
        obtain ⟨us, h1, h2⟩ := fillX_run ps qs _ out _ h hr' hset
        refine ⟨us, h1, ?_⟩
        rw [Instr.fill]
        simp only [hp]
        have hsz : v.cells.size = size := by rw [← Array.length_toList, hlen, c1]
        have hno : ¬ (v.cells.size ≠ size ∨ off + v.cells.size > vs.toArray.size) := by
          simp only [hsz, ne_eq, not_true_eq_false, false_or, List.size_toArray, hlen2]; omega
        have hf : Array.foldl (fun cs (x : Value × Nat) => cs.setIfInBounds (off + x.2) x.1) vs.toArray v.cells.zipIdx = (setAll vs off v.cells.toList).toArray := by
          rw [← Array.foldl_toList, Array.toList_zipIdx]
          exact foldl_setAll _ 0 off vs
        simp only [Bool.or_eq_true, decide_eq_true_eq, if_neg hno]
        rw [hf]
        exact h2
    · cases h

def placesX (C : Cx) : List Field → Option (List (Nat × Nat))
  | [] => some []
  | f :: fs => match C.tt.get f.type, placesX C fs with
    | some ti, some r => some ((f.offset, ti.size) :: r)
    | _, _ => none
theorem placesX_eq {C : Cx} {P : Program} {η : Env} (hC : C.Ok P η) : ∀ {fs : List Field} {r}, placesX C fs = some r → fs.mapM (fun f => (P.info? f.type).map fun i => (f.offset, i.size)) = some r
  | [], r, h => by cases h; rfl
  | f :: fs, r, h => by
    simp only [placesX] at h
    split at h
    · rename_i ti r' hti hr
      cases h
      obtain ⟨i, z, h1, h2, _⟩ := (hC.tt f.type ti hti).inf
      simp [List.mapM_cons, h1, h2, placesX_eq hC hr]
    · cases h

def buildX (C : Cx) (t : TypeId) (parts : List (Nat × Sv)) : Option Sv :=
  match C.tt.get t with
  | some ti => match ti.d with
    | .struct fs => match placesX C fs.toList with
      | some pl => (fillX (nth pl) ti.zero parts).map .agg
      | none => none
    | .array _ e => match C.tt.get e with
      | some ei => (fillX (fun i => some (i * ei.size, ei.size)) ti.zero parts).map .agg
      | none => none
    | _ => none
  | none => none

theorem buildX_run {C : Cx} {P : Program} {η : Env} {E : Emb} (hC : C.Ok P η) {t : TypeId} {parts : List (Nat × Sv)} {qs : Array (Nat × Value)} {sv : Sv} (h : buildX C t parts = some sv) (hr : PartsRel η E parts qs.toList) :
    ∃ v, sv.den η E = some v ∧ ∀ w, (Instr.build t qs).run P w = .ok v w := by
  unfold buildX at h
  split at h
  · rename_i ti hti
    have hT := hC.tt t ti hti
    have hu := hT.und
    obtain ⟨i, z, h1, h2, h3, h4, h5, _⟩ := hT.inf
    split at h
    · rename_i fs hd
      rw [hd] at hu
      split at h
      · rename_i pl hpl
        simp only [Option.map_eq_some_iff] at h
        obtain ⟨out, ho, rfl⟩ := h
        obtain ⟨us, g1, g2⟩ := fillX_run parts qs.toList ti.zero out _ ho hr (h5 η E)
        refine ⟨.agg us.toArray, by simp [Sv.den, g1], fun w => run_build w t qs us.toArray ?_⟩
        have hpl' := placesX_eq hC hpl
        have e : (fun x => (pl.toArray[x]? : Option (Nat × Nat))) = nth pl := funext fun x => by rw [nth_eq]; simp
        simp only [Program.built, h1, hu, h4, hpl', e]
        simpa using g2
      · cases h
    · rename_i n e hd
      rw [hd] at hu
      split at h
      · rename_i ei hei
        simp only [Option.map_eq_some_iff] at h
        obtain ⟨out, ho, rfl⟩ := h
        obtain ⟨us, g1, g2⟩ := fillX_run parts qs.toList ti.zero out _ ho hr (h5 η E)
        refine ⟨.agg us.toArray, by simp [Sv.den, g1], fun w => run_build w t qs us.toArray ?_⟩
        obtain ⟨i', z', k1, k2, _⟩ := (hC.tt e ei hei).inf
        simp only [Program.built, h1, hu, h4, k1, k2]
        simpa using g2
      · cases h
    · cases h
  · cases h

/-! ## Tuples -/
def extractX (x : Sv) (i : Nat) : Option Sv :=
  match x with
  | .tup l => match nth l i with
    | some (true, l) => some (.agg l)
    | some (false, [c]) => some (.one c)
    | _ => none
  | _ => none
theorem denParts_nth {η : Env} {E : Emb} : ∀ {l : List (Bool × List Sc)} {vs : List Value} {i : Nat} {p}, denParts η E l = some vs → l[i]? = some p → ∃ v, denPart η E p = some v ∧ vs[i]? = some v
  | [], vs, i, p, _, hp => by simp at hp
  | q :: l, vs, i, p, h, hp => by
    simp only [denParts] at h
    cases h1 : denPart η E q with
    | none => simp [h1] at h
    | some v =>
      cases h2 : denParts η E l with
      | none => simp [h1, h2] at h
      | some us =>
        simp [h1, h2] at h
        subst h
        cases i with
        | zero => simp at hp; subst hp; exact ⟨v, h1, rfl⟩
        | succ i => simp at hp; simpa using denParts_nth h2 hp
theorem extractX_run {P : Program} {η : Env} {E : Emb} {x sv : Sv} {i : Nat} {va : Value} (h : extractX x i = some sv) (hx : x.den η E = some va) : ∃ v, sv.den η E = some v ∧ ∀ w, (Instr.extract va i).run P w = .ok v w := by
  unfold extractX at h
  split at h
  · rename_i l
    simp only [Sv.den, Option.map_eq_some_iff] at hx
    obtain ⟨vs, hvs, rfl⟩ := hx
    split at h
    · rename_i l' hn
      cases h
      rw [nth_eq] at hn
      obtain ⟨v, h1, h2⟩ := denParts_nth hvs hn
      exact ⟨v, h1, fun w => by simp [Instr.extract, h2]⟩
    · rename_i c hn
      cases h
      rw [nth_eq] at hn
      obtain ⟨v, h1, h2⟩ := denParts_nth hvs hn
      exact ⟨v, h1, fun w => by simp [Instr.extract, h2]⟩
    · cases h
  · cases h

/-! ## Built-in functions that leave memory alone -/
def tmBoth (x y : Ix) : Option (Int × Int) :=
  match x, y with
  | .tm a, .tm b => some (a, b)
  | .tm a, .lit b => some (a, b)
  | .lit a, .tm b => some (a, b)
  | _, _ => none
theorem tmBoth_some {x y : Ix} {a b : Int} (h : tmBoth x y = some (a, b)) : rawI x = some a ∧ rawI y = some b := by
  unfold tmBoth at h
  split at h <;> first | (cases h; exact ⟨rfl, rfl⟩) | cases h
def maxX (C : Cx) (gt : Bool) (k : IntKind) (x y : Ix) (pc : PC) : Tree (Sv × PC) :=
  match tmBoth x y with
  | some (a, b) => .leaf (.one (.int k (.tm (match gt with | true => if a < b then b else a | false => if b < a then b else a))), pc)
  | none => match x, y, gt, k with
  | .poly p, .poly q, true, .i64 => match pplus p q with
    | [] => .leaf (.one (.int .i64 (.abs p)), pc)
    | _ => .fail
  | x, y, true, k => (ltX C.D k x y pc).bind fun r => branch C.D r.2 r.1 fun b pc => .leaf (.one (.int k (bif b then y else x)), pc)
  | x, y, false, k => (ltX C.D k y x pc).bind fun r => branch C.D r.2 r.1 fun b pc => .leaf (.one (.int k (bif b then y else x)), pc)

def builtinX (C : Cx) (hp : T Blk) (b : Builtin) (ts : List TypeId) (args : List Sv) (pc : PC) : Tree (Sv × PC) :=
  match b, args with
  | .real, [.one (.cpx k a _)] => .leaf (.one (.flt k a), pc)
  | .imag, [.one (.cpx k _ b)] => .leaf (.one (.flt k b), pc)
  | .complex, [.one (.flt k a), .one (.flt k' b)] => bif decide (k = k') then .leaf (.one (.cpx k a b), pc) else .fail
  | .max, [.one (.int k x), .one (.int k' y)] => bif decide (k = k') then maxX C true k x y pc else .fail
  | .min, [.one (.int k x), .one (.int k' y)] => bif decide (k = k') then maxX C false k x y pc else .fail
  | .len, [x] => match ts with
    | [t] => match C.tt.get t with
      | some ti => match ti.d, x with
        | .string, .one (.ostr l) => .leaf (.one (.int .i64 (.tm (.ofNat l.length))), pc)
        | .slice _, .one (.fz _ (.list _ n _)) => .leaf (.one (.int .i64 (.tm (.ofNat n))), pc)
        | .slice _, .one (.own _ n) => .leaf (.one (.int .i64 (.tm (.ofNat n))), pc)
        | .string, .one (.str l) => .leaf (.one (.int .i64 (.lit (.ofNat l.length))), pc)
        | .array n _, _ => .leaf (.one (.int .i64 (.lit (.ofNat n))), pc)
        | .slice _, .one (.slice none n (.known _)) => .leaf (.one (.int .i64 (.lit (.ofNat n))), pc)
        | .slice _, .one (.slice (some _) n _) => .leaf (.one (.int .i64 (.lit (.ofNat n))), pc)
        | .slice _, .one (.asl _ (.lit (.ofNat n)) _) => .leaf (.one (.int .i64 (.lit (.ofNat n))), pc)
        | .slice _, .one (.asl _ (.poly p) _) => match C.D.dec pc (.pos (pneg p)) with
          | some false => bif C.D.fits pc p then .leaf (.one (.int .i64 (.poly p)), pc) else .fail
          | _ => .fail
        | .map _ _, .one (.map none) => .leaf (.one (.int .i64 (.lit 0)), pc)
        | _, _ => .fail
      | none => .fail
    | _ => .fail
  | _, _ => .fail

theorem denArgs_cons {η : Env} {E : Emb} {c : Sv} {l : List Sv} {r : List Value} (h : denArgs η E (c :: l) = some r) : ∃ v vs, c.den η E = some v ∧ denArgs η E l = some vs ∧ r = v :: vs := by
  simp only [denArgs] at h
  cases h1 : c.den η E with
  | none => simp [h1] at h
  | some v =>
    cases h2 : denArgs η E l with
    | none => simp [h1, h2] at h
    | some vs => simp [h1, h2] at h; exact ⟨v, vs, rfl, rfl, h.symm⟩
theorem denArgs_nil {η : Env} {E : Emb} {r : List Value} (h : denArgs η E [] = some r) : r = [] := by cases h; rfl

theorem maxX_run {C : Cx} {P : Program} {η : Env} {E : Emb} (hC : C.Ok P η) {gt : Bool} {k : IntKind} {x y : Ix} {pc pc' : PC} {sv : Sv} (hpc : pc.holds η) (h : (maxX C gt k x y pc).at_ η = some (sv, pc')) :
    pc'.holds η ∧ sv.den η E = some (.int k (if gt then (if y.den η > x.den η then y.den η else x.den η) else (if y.den η < x.den η then y.den η else x.den η))) := by
  unfold maxX at h
  split at h
  · rename_i a b hab
    obtain ⟨ha, hb⟩ := tmBoth_some hab
    simp only [Tree.at_, Option.some.injEq, Prod.mk.injEq] at h
    obtain ⟨rfl, rfl⟩ := h
    refine ⟨hpc, ?_⟩
    rw [rawI_den ha, rawI_den hb]
    cases gt <;> rfl
  split at h
  · rename_i p q _
    split at h
    · rename_i hpq
      simp only [Tree.at_, Option.some.injEq, Prod.mk.injEq] at h
      obtain ⟨rfl, rfl⟩ := h
      refine ⟨hpc, ?_⟩
      have e := evP_pplus η.i p q
      rw [hpq] at e
      simp only [evP] at e
      have e' : evP η.i q = -(evP η.i p) := by omega
      simp [Sv.den, Sc.den, Ix.den, e']
    · cases h
  · obtain ⟨⟨b, pc1⟩, h1, h2⟩ := Tree.at_bind h
    obtain ⟨h3, h4⟩ := ltX_den hC.D hpc h1
    obtain ⟨pc2, hp2, h5⟩ := at_branch hC.D h4 h2
    simp only [Tree.at_, Option.some.injEq, Prod.mk.injEq] at h5
    obtain ⟨rfl, rfl⟩ := h5
    refine ⟨hp2, ?_⟩
    rw [h3]
    by_cases hc : x.den η < y.den η <;> simp [Sv.den, Sc.den, hc]
  · obtain ⟨⟨b, pc1⟩, h1, h2⟩ := Tree.at_bind h
    obtain ⟨h3, h4⟩ := ltX_den hC.D hpc h1
    obtain ⟨pc2, hp2, h5⟩ := at_branch hC.D h4 h2
    simp only [Tree.at_, Option.some.injEq, Prod.mk.injEq] at h5
    obtain ⟨rfl, rfl⟩ := h5
    refine ⟨hp2, ?_⟩
    rw [h3]
    by_cases hc : y.den η < x.den η <;> simp [Sv.den, Sc.den, hc]

theorem own_den {η : Env} {E : Emb} {b n : Nat} {va : Value} (h : (Sv.one (.own b n)).den η E = some va) : ∃ B K, E b = some (B, K) ∧ va = .slice (some ⟨B, 0, none⟩) n K ∧ n ≤ K := by
  simp only [Sv.den, Sc.den] at h
  split at h
  · rename_i x hE
    split at h
    · rename_i hle
      cases h
      exact ⟨x.1, x.2, hE, rfl, hle⟩
    · cases h
  · cases h
theorem own_mk {η : Env} {E : Emb} {b n B K : Nat} (h : E b = some (B, K)) (hn : n ≤ K) : (Sv.one (.own b n)).den η E = some (.slice (some ⟨B, 0, none⟩) n K) := by
  simp [Sv.den, Sc.den, h, hn]
theorem rptr_den {η : Env} {E : Emb} {b sz i j : Nat} {va : Value} (h : (Sv.one (.rptr b sz i j)).den η E = some va) : ∃ B K, E b = some (B, K) ∧ va = .pointer (some ⟨B, i * sz + j, none⟩) := by
  simp only [Sv.den, Sc.den, Option.map_eq_some_iff] at h
  obtain ⟨⟨B, K⟩, h1, rfl⟩ := h
  exact ⟨B, K, h1, rfl⟩
theorem rptr_mk {η : Env} {E : Emb} {b sz i j B K : Nat} (h : E b = some (B, K)) : (Sv.one (.rptr b sz i j)).den η E = some (.pointer (some ⟨B, i * sz + j, none⟩)) := by
  simp [Sv.den, Sc.den, h]

theorem builtinX_run {C : Cx} {P : Program} {η : Env} {E : Emb} (hC : C.Ok P η) {hp : T Blk} {nx lo base : Nat} {w : World} (hH : HRel η E hp nx lo base w) {b : Builtin} {ts : Array TypeId} {args : List Sv} {vs : List Value} {pc pc' : PC} {sv : Sv}
    (hpc : pc.holds η) (h : (builtinX C hp b ts.toList args pc).at_ η = some (sv, pc')) (ha : denArgs η E args = some vs) (ty : TypeId) (cs : Array Bool) :
    pc'.holds η ∧ ∃ v, sv.den η E = some v ∧ (builtin b ts ty cs vs.toArray).run P w = .ok (.value v) w := by
  unfold builtinX at h
  split at h
  · obtain ⟨v, us, h1, h2, rfl⟩ := denArgs_cons ha
    cases denArgs_nil h2; cases h1
    simp only [Tree.at_, Option.some.injEq, Prod.mk.injEq] at h
    obtain ⟨rfl, rfl⟩ := h
    exact ⟨hpc, _, rfl, rfl⟩
  · obtain ⟨v, us, h1, h2, rfl⟩ := denArgs_cons ha
    cases denArgs_nil h2; cases h1
    simp only [Tree.at_, Option.some.injEq, Prod.mk.injEq] at h
    obtain ⟨rfl, rfl⟩ := h
    exact ⟨hpc, _, rfl, rfl⟩
  · rename_i k a k' b'
    obtain ⟨v, us, h1, h2, rfl⟩ := denArgs_cons ha
    obtain ⟨u, us', h3, h4, rfl⟩ := denArgs_cons h2
    cases denArgs_nil h4; cases h1; cases h3
    by_cases hk : k = k'
    · subst hk
      simp only [decide_true, cond_true, Tree.at_, Option.some.injEq, Prod.mk.injEq] at h
      obtain ⟨rfl, rfl⟩ := h
      refine ⟨hpc, _, rfl, ?_⟩
      obtain ⟨msg, e⟩ : ∃ msg, Builtin.complex_ ts ty #[.float k (a.den η), .float k (b'.den η)] = (if k = k then pure (.complex k (a.den η) (b'.den η)) else stuck msg : Sem Value) := ⟨_, rfl⟩
      simp only [builtin, e, if_true]; rfl
    · simp [hk, Tree.at_] at h
  · rename_i k x k' y
    obtain ⟨v, us, h1, h2, rfl⟩ := denArgs_cons ha
    obtain ⟨u, us', h3, h4, rfl⟩ := denArgs_cons h2
    cases denArgs_nil h4; cases h1; cases h3
    by_cases hk : k = k'
    · subst hk
      simp only [decide_true, cond_true] at h
      obtain ⟨g1, g2⟩ := maxX_run (E := E) hC hpc h
      exact ⟨g1, _, g2, by simp [builtin, Builtin.max_, Builtin.max2]⟩
    · simp [hk, Tree.at_] at h
  · rename_i k x k' y
    obtain ⟨v, us, h1, h2, rfl⟩ := denArgs_cons ha
    obtain ⟨u, us', h3, h4, rfl⟩ := denArgs_cons h2
    cases denArgs_nil h4; cases h1; cases h3
    by_cases hk : k = k'
    · subst hk
      simp only [decide_true, cond_true] at h
      obtain ⟨g1, g2⟩ := maxX_run (E := E) hC hpc h
      exact ⟨g1, _, g2, by simp [builtin, Builtin.min_, Builtin.min2]⟩
    · simp [hk, Tree.at_] at h
  · rename_i x
    obtain ⟨v, us, h1, h2, rfl⟩ := denArgs_cons ha
    cases denArgs_nil h2
    split at h
    · rename_i t hts
      have et : ts = #[t] := by cases ts; simp at hts; simp [hts]
      subst et
      split at h
      · rename_i ti hti
        have hu := (hC.tt t ti hti).und
        split at h
        · rename_i l hd; rw [hd] at hu
          cases h1
          simp only [Tree.at_, Option.some.injEq, Prod.mk.injEq] at h
          obtain ⟨rfl, rfl⟩ := h
          exact ⟨hpc, _, rfl, by
            have es : (⟨l.toArray⟩ : ByteArray).size = l.length := List.size_toArray ..
            simp [builtin, Builtin.len_, run_underlying hu, goInt, es, Ix.den]⟩
        · rename_i e r cs n f hd; rw [hd] at hu
          obtain ⟨_, a, c, rfl, _⟩ := fzDen_some.1 h1
          simp only [Tree.at_, Option.some.injEq, Prod.mk.injEq] at h
          obtain ⟨rfl, rfl⟩ := h
          exact ⟨hpc, _, rfl, by simp [builtin, Builtin.len_, run_underlying hu, goInt, Ix.den]⟩
        · rename_i e b' n hd; rw [hd] at hu
          obtain ⟨B, K, _, rfl, _⟩ := own_den h1
          simp only [Tree.at_, Option.some.injEq, Prod.mk.injEq] at h
          obtain ⟨rfl, rfl⟩ := h
          exact ⟨hpc, _, rfl, by simp [builtin, Builtin.len_, run_underlying hu, goInt, Ix.den]⟩
        · rename_i l hd; rw [hd] at hu
          cases h1
          simp only [Tree.at_, Option.some.injEq, Prod.mk.injEq] at h
          obtain ⟨rfl, rfl⟩ := h
          exact ⟨hpc, _, rfl, by
            have es : (⟨l.toArray⟩ : ByteArray).size = l.length := List.size_toArray ..
            simp [builtin, Builtin.len_, run_underlying hu, goInt, es, Ix.den]⟩
        · rename_i hd; rw [hd] at hu
          simp only [Tree.at_, Option.some.injEq, Prod.mk.injEq] at h
          obtain ⟨rfl, rfl⟩ := h
          exact ⟨hpc, _, rfl, by cases v <;> simp [builtin, Builtin.len_, run_underlying hu, goInt, Ix.den]⟩
        · rename_i hd; rw [hd] at hu
          cases h1
          simp only [Tree.at_, Option.some.injEq, Prod.mk.injEq] at h
          obtain ⟨rfl, rfl⟩ := h
          exact ⟨hpc, _, rfl, by simp [builtin, Builtin.len_, run_underlying hu, goInt, Ix.den]⟩
        · rename_i a n c hd; rw [hd] at hu
          obtain ⟨b', o⟩ := a
          obtain ⟨B, K, m, _, rfl, _⟩ := slice_den h1
          simp only [Tree.at_, Option.some.injEq, Prod.mk.injEq] at h
          obtain ⟨rfl, rfl⟩ := h
          exact ⟨hpc, _, rfl, by simp [builtin, Builtin.len_, run_underlying hu, goInt, Ix.den]⟩
        · rename_i b' n c hd; rw [hd] at hu
          obtain ⟨B, K, _, rfl⟩ := asl_den h1
          simp only [Tree.at_, Option.some.injEq, Prod.mk.injEq] at h
          obtain ⟨rfl, rfl⟩ := h
          exact ⟨hpc, _, rfl, by simp [builtin, Builtin.len_, run_underlying hu, goInt, Ix.den]⟩
        · rename_i b' q c hd; rw [hd] at hu
          obtain ⟨B, K, _, rfl⟩ := asl_den h1
          split at h
          · rename_i hdec
            cases hf : C.D.fits pc q with
            | false => rw [hf] at h; cases h
            | true =>
              rw [hf] at h
              simp only [cond_true, Tree.at_, Option.some.injEq, Prod.mk.injEq] at h
              obtain ⟨rfl, rfl⟩ := h
              have h1 := hC.D.dec pc _ _ hdec hpc
              have h2 := hC.D.fits pc q hf hpc
              simp only [Atom.den, evP_pneg] at h1
              have h1 := of_decide_eq_false h1
              have e : ((Ix.poly q).den η).toNat = (Ix.poly q).den η := by
                simp only [Ix.den, h2]; omega
              exact ⟨hpc, _, rfl, by simp [builtin, Builtin.len_, run_underlying hu, goInt]; omega⟩
          · cases h
        · rename_i hd; rw [hd] at hu
          cases h1
          simp only [Tree.at_, Option.some.injEq, Prod.mk.injEq] at h
          obtain ⟨rfl, rfl⟩ := h
          exact ⟨hpc, _, rfl, by simp [builtin, Builtin.len_, run_underlying hu, goInt, Ix.den]⟩
        · cases h
      · cases h
    · cases h
  · cases h

end
end Go.Ex

