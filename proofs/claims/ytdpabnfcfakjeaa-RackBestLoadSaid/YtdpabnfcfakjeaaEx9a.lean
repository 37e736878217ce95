/-
 The executor's composite values and built-in functions; all operations that leave memory alone, together.
-/
import Derived.Test.YtdpabnfcfakjeaaEx7a
/-
 The executor's operations on plain data that are terms: loads, indexes, slices of frozen rows and of rows of its own.
-/

namespace Go.Ex
open Go Go.RowKit
noncomputable section

/-! ## Composite values -/
def qC : Sv → Option (List Sc)
 | .one c => some [c]
 | .agg l => some l
 | _ => none
theorem bB.one {z : Nat → Nat → Option Value} : ∀ {d : FD} {v : Value}, bB z d v → v.cells = #[v] ∧ v.oneCell' = true
 | .bool _, _, h => by cases h; exact ⟨rfl, rfl⟩
 | .int _ _, _, h => by cases h; exact ⟨rfl, rfl⟩
 | .str _, _, h => by cases h; exact ⟨rfl, rfl⟩
 | .list _ _ _, _, h => by obtain ⟨a, c, rfl, _⟩ := h; exact ⟨rfl, rfl⟩
theorem Sc.den_cells {η : Env} {E : Emb} {c : Sc} {v : Value} (h : c.den η E = some v) : v.cells = #[v] ∧ v.oneCell' = true := by
 cases c with
 | ptr a => cases a with
  | none => cases h; exact ⟨rfl, rfl⟩
  | some a =>
   simp only [Sc.den, Option.map_eq_some_iff] at h
   obtain ⟨x, _, rfl⟩ := h; exact ⟨rfl, rfl⟩
 | slice a n c =>
  cases a with
  | none => cases c <;> simp only [Sc.den] at h <;> first | (cases h; exact ⟨rfl, rfl⟩) | cases h
  | some a =>
   obtain ⟨b, o⟩ := a
   obtain ⟨B, K, m, _, rfl, _⟩ := eQ (η := η) (E := E) (b := b) (o := o) (n := n) (c := c) (va := v) h
   exact ⟨rfl, rfl⟩
 | map r => cases r with
  | none => cases h; exact ⟨rfl, rfl⟩
  | some b =>
   simp only [Sc.den, Option.map_eq_some_iff] at h
   obtain ⟨x, _, rfl⟩ := h; exact ⟨rfl, rfl⟩
 | fn f caps =>
  simp only [Sc.den, Option.map_eq_some_iff] at h
  obtain ⟨x, _, rfl⟩ := h; exact ⟨rfl, rfl⟩
 | asl b n c =>
  simp only [Sc.den, Option.map_eq_some_iff] at h
  obtain ⟨x, _, rfl⟩ := h; exact ⟨rfl, rfl⟩
 | aptr b o =>
  simp only [Sc.den, Option.map_eq_some_iff] at h
  obtain ⟨x, _, rfl⟩ := h; exact ⟨rfl, rfl⟩
 | fz r d => exact bB.one (aI.1 h).2
 | fptr r cs n f i j =>
  obtain ⟨B, o, c, _, _, _, rfl⟩ := dD.1 h
  exact ⟨rfl, rfl⟩
 | own b n =>
  simp only [Sc.den] at h
  split at h
  ·split at h
   ·cases h; exact ⟨rfl, rfl⟩
   ·cases h
  ·cases h
 | rptr b sz i j =>
  simp only [Sc.den, Option.map_eq_some_iff] at h
  obtain ⟨x, _, rfl⟩ := h; exact ⟨rfl, rfl⟩
 | mown b q i n =>
  simp only [Sc.den] at h
  split at h
  ·split at h
   ·cases h; exact ⟨rfl, rfl⟩
   ·cases h
  ·cases h
 | mptr b q i j =>
  simp only [Sc.den, Option.map_eq_some_iff] at h
  obtain ⟨x, _, rfl⟩ := h; exact ⟨rfl, rfl⟩
 | _ => cases h; exact ⟨rfl, rfl⟩

theorem qD {η : Env} {E : Emb} {x : Sv} {l : List Sc} {va : Value} (h : qC x = some l) (hx : x.den η E = some va) : aL η E l = some va.cells.toList := by
 cases x with
 | one c =>
  cases h
  simp only [Sv.den] at hx
  rw [(Sc.den_cells hx).1]
  simp [aL, hx]
 | agg l' => cases h; obtain ⟨vs, h1, rfl⟩ := fO hx; simpa [Value.cells] using h1
 | tup l' => cases h
 | undef => cases h

/-- Cells written one after the other. -/
def eB {α : Type} : List α → Nat → List α → List α
 | l, _, [] => l
 | l, o, c :: cs => eB (l.set o c) (o + 1) cs

theorem hO {α : Type} : ∀ (cs l : List α) (o : Nat), (eB l o cs).length = l.length
 | [], l, o => rfl
 | c :: cs, l, o => by simp [eB, hO cs]

theorem G8 {η : Env} {E : Emb} : ∀ {l : List Sc} {vs : List Value} {o : Nat} {c : Sc} {v : Value}, aL η E l = some vs → c.den η E = some v → aL η E (l.set o c) = some (vs.set o v)
 | [], vs, o, c, v, h, _ => by cases h; rfl
 | d :: l, vs, 0, c, v, h, hc => by
  obtain ⟨u, us, _, h2, rfl⟩ := aP h
  simp [aL, hc, h2]
 | d :: l, vs, o + 1, c, v, h, hc => by
  obtain ⟨u, us, h1, h2, rfl⟩ := aP h
  simp [aL, h1, G8 h2 hc]

theorem kK {η : Env} {E : Emb} : ∀ (cs : List Sc) {l : List Sc} {vs us : List Value} {o : Nat}, aL η E l = some vs → aL η E cs = some us → aL η E (eB l o cs) = some (eB vs o us)
 | [], l, vs, us, o, h, hc => by cases hc; exact h
 | c :: cs, l, vs, us, o, h, hc => by
  obtain ⟨u, us', h1, h2, rfl⟩ := aP hc
  exact kK cs (G8 h h1) h2

theorem sC : ∀ (us : List Value) (k off : Nat) (vs : List Value),
  (us.zipIdx k).foldl (fun cs (x : Value × Nat) => cs.setIfInBounds (off + x.2) x.1) vs.toArray = (eB vs (off + k) us).toArray
 | [], k, off, vs => rfl
 | u :: us, k, off, vs => by
  simp only [List.zipIdx_cons, List.foldl_cons, eB]
  rw [List.setIfInBounds_toArray, sC us (k + 1) off (vs.set (off + k) u)]
  rfl

def vA (place : Nat → Option (Nat × Nat)) : List Sc → List (Nat × Sv) → Option (List Sc)
 | cells, [] => some cells
 | cells, (i, v) :: rest => match place i, qC v with
  | some (off, size), some cs => bif Nat.beq cs.length size && Nat.ble (off + size) cells.length then vA place (eB cells off cs) rest else none
  | _, _ => none

/-- The parts as the run has them. -/
def nS (η : Env) (E : Emb) : List (Nat × Sv) → List (Nat × Value) → Prop
 | [], [] => True
 | (i, s) :: l, (j, v) :: m => i = j ∧ s.den η E = some v ∧ nS η E l m
 | _, _ => False

theorem o4 {η : Env} {E : Emb} {place : Nat → Option (Nat × Nat)} : ∀ (ps : List (Nat × Sv)) (qs : List (Nat × Value)) (cells out : List Sc) (vs : List Value), vA place cells ps = some out → nS η E ps qs → aL η E cells = some vs →
  ∃ us, aL η E out = some us ∧ Instr.fill place vs.toArray qs = some us.toArray
 | [], [], cells, out, vs, h, _, hv => by cases h; exact ⟨vs, hv, rfl⟩
 | [], _ :: _, _, _, _, _, hr, _ => hr.elim
 | (i, s) :: ps, [], _, _, _, _, hr, _ => hr.elim
 | (i, s) :: ps, (j, v) :: qs, cells, out, vs, h, hr, hv => by
  obtain ⟨rfl, hs, hr'⟩ := hr
  simp only [vA] at h
  split at h
  ·rename_i off size cs hp hcs
   cases hc : (Nat.beq cs.length size && Nat.ble (off + size) cells.length) with
   | false => rw [hc] at h; cases h
   | true =>
    rw [hc] at h
    obtain ⟨c1, c2⟩ := bI hc
    have c1 := Nat.eq_of_beq_eq_true c1
    have c2 := Nat.le_of_ble_eq_true c2
    have hcd := qD hcs hs
    have hlen := aY hcd
    have hlen2 := aY hv
    have hset := kK cs (o := off) hv hcd
    obtain ⟨us, h1, h2⟩ := o4 ps qs _ out _ h hr' hset
    refine ⟨us, h1, ?_⟩
    rw [Instr.fill]
    simp only [hp]
    have hsz : v.cells.size = size := by rw [← Array.length_toList, hlen, c1]
    have hno : ¬ (v.cells.size ≠ size ∨ off + v.cells.size > vs.toArray.size) := by
     simp only [hsz, ne_eq, not_true_eq_false, false_or, List.size_toArray, hlen2]; omega
    have hf : Array.foldl (fun cs (x : Value × Nat) => cs.setIfInBounds (off + x.2) x.1) vs.toArray v.cells.zipIdx = (eB vs off v.cells.toList).toArray := by
     rw [← Array.foldl_toList, Array.toList_zipIdx]
     exact sC _ 0 off vs
    simp only [Bool.or_eq_true, decide_eq_true_eq, if_neg hno]
    rw [hf]
    exact h2
  ·cases h

def wP (C : Cx) : List Field → Option (List (Nat × Nat))
 | [] => some []
 | f :: fs => match C.tt.get f.type, wP C fs with
  | some ti, some r => some ((f.offset, ti.size) :: r)
  | _, _ => none
theorem yL {C : Cx} {P : Program} {η : Env} (hC : C.Ok P η) : ∀ {fs : List Field} {r}, wP C fs = some r → fs.mapM (fun f => (P.info? f.type).map fun i => (f.offset, i.size)) = some r
 | [], r, h => by cases h; rfl
 | f :: fs, r, h => by
  simp only [wP] at h
  split at h
  ·rename_i ti r' hti hr
   cases h
   obtain ⟨i, z, h1, h2, _⟩ := (hC.tt f.type ti hti).inf
   simp [List.mapM_cons, h1, h2, yL hC hr]
  ·cases h

def KN (C : Cx) (t : TypeId) (parts : List (Nat × Sv)) : Option Sv :=
 match C.tt.get t with
 | some ti => match ti.d with
  | .struct fs => match wP C fs.toList with
   | some pl => (vA (nth pl) ti.zero parts).map .agg
   | none => none
  | .array _ e => match C.tt.get e with
   | some ei => (vA (fun i => some (i * ei.size, ei.size)) ti.zero parts).map .agg
   | none => none
  | _ => none
 | none => none

theorem KO {C : Cx} {P : Program} {η : Env} {E : Emb} (hC : C.Ok P η) {t : TypeId} {parts : List (Nat × Sv)} {qs : Array (Nat × Value)} {sv : Sv} (h : KN C t parts = some sv) (hr : nS η E parts qs.toList) :
  ∃ v, sv.den η E = some v ∧ ∀ w, (Instr.build t qs).run P w = .ok v w := by
 unfold KN at h
 split at h
 ·rename_i ti hti
  have hT := hC.tt t ti hti
  have hu := hT.und
  obtain ⟨i, z, h1, h2, h3, h4, h5, _⟩ := hT.inf
  split at h
  ·rename_i fs hd
   rw [hd] at hu
   split at h
   ·rename_i pl hpl
    simp only [Option.map_eq_some_iff] at h
    obtain ⟨out, ho, rfl⟩ := h
    obtain ⟨us, g1, g2⟩ := o4 parts qs.toList ti.zero out _ ho hr (h5 η E)
    refine ⟨.agg us.toArray, by simp [Sv.den, g1], fun w => run_build w t qs us.toArray ?_⟩
    have hpl' := yL hC hpl
    have e : (fun x => (pl.toArray[x]? : Option (Nat × Nat))) = nth pl := funext fun x => by rw [cI]; simp
    simp only [Program.built, h1, hu, h4, hpl', e]
    simpa using g2
   ·cases h
  ·rename_i n e hd
   rw [hd] at hu
   split at h
   ·rename_i ei hei
    simp only [Option.map_eq_some_iff] at h
    obtain ⟨out, ho, rfl⟩ := h
    obtain ⟨us, g1, g2⟩ := o4 parts qs.toList ti.zero out _ ho hr (h5 η E)
    refine ⟨.agg us.toArray, by simp [Sv.den, g1], fun w => run_build w t qs us.toArray ?_⟩
    obtain ⟨i', z', k1, k2, _⟩ := (hC.tt e ei hei).inf
    simp only [Program.built, h1, hu, h4, k1, k2]
    simpa using g2
   ·cases h
  ·cases h
 ·cases h

/-! ## Tuples -/
def yM (x : Sv) (i : Nat) : Option Sv :=
 match x with
 | .tup l => match nth l i with
  | some (true, l) => some (.agg l)
  | some (false, [c]) => some (.one c)
  | _ => none
 | _ => none
theorem mJ {η : Env} {E : Emb} : ∀ {l : List (Bool × List Sc)} {vs : List Value} {i : Nat} {p}, aN η E l = some vs → l[i]? = some p → ∃ v, bP η E p = some v ∧ vs[i]? = some v
 | [], vs, i, p, _, hp => by simp at hp
 | q :: l, vs, i, p, h, hp => by
  simp only [aN] at h
  cases h1 : bP η E q with
  | none => simp [h1] at h
  | some v =>
   cases h2 : aN η E l with
   | none => simp [h1, h2] at h
   | some us =>
    simp [h1, h2] at h
    subst h
    cases i with
    | zero => simp at hp; subst hp; exact ⟨v, h1, rfl⟩
    | succ i => simp at hp; simpa using mJ h2 hp
theorem EE {P : Program} {η : Env} {E : Emb} {x sv : Sv} {i : Nat} {va : Value} (h : yM x i = some sv) (hx : x.den η E = some va) : ∃ v, sv.den η E = some v ∧ ∀ w, (Instr.extract va i).run P w = .ok v w := by
 unfold yM at h
 split at h
 ·rename_i l
  simp only [Sv.den, Option.map_eq_some_iff] at hx
  obtain ⟨vs, hvs, rfl⟩ := hx
  split at h
  ·rename_i l' hn
   cases h
   rw [cI] at hn
   obtain ⟨v, h1, h2⟩ := mJ hvs hn
   exact ⟨v, h1, fun w => by simp [Instr.extract, h2]⟩
  ·rename_i c hn
   cases h
   rw [cI] at hn
   obtain ⟨v, h1, h2⟩ := mJ hvs hn
   exact ⟨v, h1, fun w => by simp [Instr.extract, h2]⟩
  ·cases h
 ·cases h

/-! ## Built-in functions that leave memory alone -/
def KP (x y : Ix) : Option (Int × Int) :=
 match x, y with
 | .tm a, .tm b => some (a, b)
 | .tm a, .lit b => some (a, b)
 | .lit a, .tm b => some (a, b)
 | _, _ => none
theorem G9 {x y : Ix} {a b : Int} (h : KP x y = some (a, b)) : gQ x = some a ∧ gQ y = some b := by
 unfold KP at h
 split at h <;> first | (cases h; exact ⟨rfl, rfl⟩) | cases h
def SV (C : Cx) (gt : Bool) (k : IntKind) (x y : Ix) (pc : PC) : aA (Sv × PC) :=
 match KP x y with
 | some (a, b) => .leaf (.one (.int k (.tm (match gt with | true => if a < b then b else a | false => if b < a then b else a))), pc)
 | none => match x, y, gt, k with
 | .poly p, .poly q, true, .i64 => match GB p q with
  | [] => .leaf (.one (.int .i64 (.abs p)), pc)
  | _ => .fail
 | x, y, true, k => (ltX C.D k x y pc).bind fun r => dE C.D r.2 r.1 fun b pc => .leaf (.one (.int k (bif b then y else x)), pc)
 | x, y, false, k => (ltX C.D k y x pc).bind fun r => dE C.D r.2 r.1 fun b pc => .leaf (.one (.int k (bif b then y else x)), pc)

def yN (C : Cx) (hp : T Blk) (b : Builtin) (ts : List TypeId) (args : List Sv) (pc : PC) : aA (Sv × PC) :=
 match b, args with
 | .real, [.one (.cpx k a _)] => .leaf (.one (.flt k a), pc)
 | .imag, [.one (.cpx k _ b)] => .leaf (.one (.flt k b), pc)
 | .complex, [.one (.flt k a), .one (.flt k' b)] => bif decide (k = k') then .leaf (.one (.cpx k a b), pc) else .fail
 | .max, [.one (.int k x), .one (.int k' y)] => bif decide (k = k') then SV C true k x y pc else .fail
 | .min, [.one (.int k x), .one (.int k' y)] => bif decide (k = k') then SV C false k x y pc else .fail
 | .len, [x] => match ts with
  | [t] => match C.tt.get t with
   | some ti => match ti.d, x with
    | .string, .one (.ostr l) => .leaf (.one (.int .i64 (.tm (.ofNat l.length))), pc)
    | .slice _, .one (.fz _ (.list _ n _)) => .leaf (.one (.int .i64 (.tm (.ofNat n))), pc)
    | .slice _, .one (.own _ n) => .leaf (.one (.int .i64 (.tm (.ofNat n))), pc)
    | .string, .one (.str l) => .leaf (.one (.int .i64 (.lit (.ofNat l.length))), pc)
    | .array n _, _ => .leaf (.one (.int .i64 (.lit (.ofNat n))), pc)
    | .slice _, .one (.slice none n (.known _)) => .leaf (.one (.int .i64 (.lit (.ofNat n))), pc)
    | .slice _, .one (.slice (some _) n _) => .leaf (.one (.int .i64 (.lit (.ofNat n))), pc)
    | .slice _, .one (.asl _ (.lit (.ofNat n)) _) => .leaf (.one (.int .i64 (.lit (.ofNat n))), pc)
    | .slice _, .one (.asl _ (.poly p) _) => match C.D.dec pc (.pos (BN p)) with
     | some false => bif C.D.fits pc p then .leaf (.one (.int .i64 (.poly p)), pc) else .fail
     | _ => .fail
    | .map _ _, .one (.map none) => .leaf (.one (.int .i64 (.lit 0)), pc)
    | _, _ => .fail
   | none => .fail
  | _ => .fail
 | _, _ => .fail

theorem aG {η : Env} {E : Emb} {c : Sv} {l : List Sv} {r : List Value} (h : aB η E (c :: l) = some r) : ∃ v vs, c.den η E = some v ∧ aB η E l = some vs ∧ r = v :: vs := by
 simp only [aB] at h
 cases h1 : c.den η E with
 | none => simp [h1] at h
 | some v =>
  cases h2 : aB η E l with
  | none => simp [h1, h2] at h
  | some vs => simp [h1, h2] at h; exact ⟨v, vs, rfl, rfl, h.symm⟩
theorem f9 {η : Env} {E : Emb} {r : List Value} (h : aB η E [] = some r) : r = [] := by cases h; rfl

theorem HA {C : Cx} {P : Program} {η : Env} {E : Emb} (hC : C.Ok P η) {gt : Bool} {k : IntKind} {x y : Ix} {pc pc' : PC} {sv : Sv} (hpc : pc.holds η) (h : (SV C gt k x y pc).at_ η = some (sv, pc')) :
  pc'.holds η ∧ sv.den η E = some (.int k (if gt then (if y.den η > x.den η then y.den η else x.den η) else (if y.den η < x.den η then y.den η else x.den η))) := by
 unfold SV at h
 split at h
 ·rename_i a b hab
  obtain ⟨ha, hb⟩ := G9 hab
  simp only [aA.at_, Option.some.injEq, Prod.mk.injEq] at h
  obtain ⟨rfl, rfl⟩ := h
  refine ⟨hpc, ?_⟩
  rw [cH ha, cH hb]
  cases gt <;> rfl
 split at h
 ·rename_i p q _
  split at h
  ·rename_i hpq
   simp only [aA.at_, Option.some.injEq, Prod.mk.injEq] at h
   obtain ⟨rfl, rfl⟩ := h
   refine ⟨hpc, ?_⟩
   have e := oW η.i p q
   rw [hpq] at e
   simp only [evP] at e
   have e' : evP η.i q = -(evP η.i p) := by omega
   simp [Sv.den, Sc.den, Ix.den, e']
  ·cases h
 ·obtain ⟨⟨b, pc1⟩, h1, h2⟩ := aA.at_bind h
  obtain ⟨h3, h4⟩ := o3 hC.D hpc h1
  obtain ⟨pc2, hp2, h5⟩ := bD hC.D h4 h2
  simp only [aA.at_, Option.some.injEq, Prod.mk.injEq] at h5
  obtain ⟨rfl, rfl⟩ := h5
  refine ⟨hp2, ?_⟩
  rw [h3]
  by_cases hc : x.den η < y.den η <;> simp [Sv.den, Sc.den, hc]
 ·obtain ⟨⟨b, pc1⟩, h1, h2⟩ := aA.at_bind h
  obtain ⟨h3, h4⟩ := o3 hC.D hpc h1
  obtain ⟨pc2, hp2, h5⟩ := bD hC.D h4 h2
  simp only [aA.at_, Option.some.injEq, Prod.mk.injEq] at h5
  obtain ⟨rfl, rfl⟩ := h5
  refine ⟨hp2, ?_⟩
  rw [h3]
  by_cases hc : y.den η < x.den η <;> simp [Sv.den, Sc.den, hc]

theorem hU {η : Env} {E : Emb} {b n : Nat} {va : Value} (h : (Sv.one (.own b n)).den η E = some va) : ∃ B K, E b = some (B, K) ∧ va = .slice (some ⟨B, 0, none⟩) n K ∧ n ≤ K := by
 simp only [Sv.den, Sc.den] at h
 split at h
 ·rename_i x hE
  split at h
  ·rename_i hle
   cases h
   exact ⟨x.1, x.2, hE, rfl, hle⟩
  ·cases h
 ·cases h
theorem EF {η : Env} {E : Emb} {b n B K : Nat} (h : E b = some (B, K)) (hn : n ≤ K) : (Sv.one (.own b n)).den η E = some (.slice (some ⟨B, 0, none⟩) n K) := by
 simp [Sv.den, Sc.den, h, hn]
theorem sD {η : Env} {E : Emb} {b sz i j : Nat} {va : Value} (h : (Sv.one (.rptr b sz i j)).den η E = some va) : ∃ B K, E b = some (B, K) ∧ va = .pointer (some ⟨B, i * sz + j, none⟩) := by
 simp only [Sv.den, Sc.den, Option.map_eq_some_iff] at h
 obtain ⟨⟨B, K⟩, h1, rfl⟩ := h
 exact ⟨B, K, h1, rfl⟩
theorem M1 {η : Env} {E : Emb} {b sz i j B K : Nat} (h : E b = some (B, K)) : (Sv.one (.rptr b sz i j)).den η E = some (.pointer (some ⟨B, i * sz + j, none⟩)) := by
 simp [Sv.den, Sc.den, h]

theorem EG {C : Cx} {P : Program} {η : Env} {E : Emb} (hC : C.Ok P η) {hp : T Blk} {nx lo base : Nat} {w : World} (hH : aD η E hp nx lo base w) {b : Builtin} {ts : Array TypeId} {args : List Sv} {vs : List Value} {pc pc' : PC} {sv : Sv}
  (hpc : pc.holds η) (h : (yN C hp b ts.toList args pc).at_ η = some (sv, pc')) (ha : aB η E args = some vs) (ty : TypeId) (cs : Array Bool) :
  pc'.holds η ∧ ∃ v, sv.den η E = some v ∧ (builtin b ts ty cs vs.toArray).run P w = .ok (.value v) w := by
 unfold yN at h
 split at h
 ·obtain ⟨v, us, h1, h2, rfl⟩ := aG ha
  cases f9 h2; cases h1
  simp only [aA.at_, Option.some.injEq, Prod.mk.injEq] at h
  obtain ⟨rfl, rfl⟩ := h
  exact ⟨hpc, _, rfl, rfl⟩
 ·obtain ⟨v, us, h1, h2, rfl⟩ := aG ha
  cases f9 h2; cases h1
  simp only [aA.at_, Option.some.injEq, Prod.mk.injEq] at h
  obtain ⟨rfl, rfl⟩ := h
  exact ⟨hpc, _, rfl, rfl⟩
 ·rename_i k a k' b'
  obtain ⟨v, us, h1, h2, rfl⟩ := aG ha
  obtain ⟨u, us', h3, h4, rfl⟩ := aG h2
  cases f9 h4; cases h1; cases h3
  by_cases hk : k = k'
  ·subst hk
   simp only [decide_true, cond_true, aA.at_, Option.some.injEq, Prod.mk.injEq] at h
   obtain ⟨rfl, rfl⟩ := h
   refine ⟨hpc, _, rfl, ?_⟩
   obtain ⟨msg, e⟩ : ∃ msg, Builtin.complex_ ts ty #[.float k (a.den η), .float k (b'.den η)] = (if k = k then pure (.complex k (a.den η) (b'.den η)) else stuck msg : Sem Value) := ⟨_, rfl⟩
   simp only [builtin, e, if_true]; rfl
  ·simp [hk, aA.at_] at h
 ·rename_i k x k' y
  obtain ⟨v, us, h1, h2, rfl⟩ := aG ha
  obtain ⟨u, us', h3, h4, rfl⟩ := aG h2
  cases f9 h4; cases h1; cases h3
  by_cases hk : k = k'
  ·subst hk
   simp only [decide_true, cond_true] at h
   obtain ⟨g1, g2⟩ := HA (E := E) hC hpc h
   exact ⟨g1, _, g2, by simp [builtin, Builtin.max_, Builtin.max2]⟩
  ·simp [hk, aA.at_] at h
 ·rename_i k x k' y
  obtain ⟨v, us, h1, h2, rfl⟩ := aG ha
  obtain ⟨u, us', h3, h4, rfl⟩ := aG h2
  cases f9 h4; cases h1; cases h3
  by_cases hk : k = k'
  ·subst hk
   simp only [decide_true, cond_true] at h
   obtain ⟨g1, g2⟩ := HA (E := E) hC hpc h
   exact ⟨g1, _, g2, by simp [builtin, Builtin.min_, Builtin.min2]⟩
  ·simp [hk, aA.at_] at h
 ·rename_i x
  obtain ⟨v, us, h1, h2, rfl⟩ := aG ha
  cases f9 h2
  split at h
  ·rename_i t hts
   have et : ts = #[t] := by cases ts; simp at hts; simp [hts]
   subst et
   split at h
   ·rename_i ti hti
    have hu := (hC.tt t ti hti).und
    split at h
    ·rename_i l hd; rw [hd] at hu
     cases h1
     simp only [aA.at_, Option.some.injEq, Prod.mk.injEq] at h
     obtain ⟨rfl, rfl⟩ := h
     exact ⟨hpc, _, rfl, by
      have es : (⟨l.toArray⟩ : ByteArray).size = l.length := List.size_toArray ..
      simp [builtin, Builtin.len_, run_underlying hu, goInt, es, Ix.den]⟩
    ·rename_i e r cs n f hd; rw [hd] at hu
     obtain ⟨_, a, c, rfl, _⟩ := aI.1 h1
     simp only [aA.at_, Option.some.injEq, Prod.mk.injEq] at h
     obtain ⟨rfl, rfl⟩ := h
     exact ⟨hpc, _, rfl, by simp [builtin, Builtin.len_, run_underlying hu, goInt, Ix.den]⟩
    ·rename_i e b' n hd; rw [hd] at hu
     obtain ⟨B, K, _, rfl, _⟩ := hU h1
     simp only [aA.at_, Option.some.injEq, Prod.mk.injEq] at h
     obtain ⟨rfl, rfl⟩ := h
     exact ⟨hpc, _, rfl, by simp [builtin, Builtin.len_, run_underlying hu, goInt, Ix.den]⟩
    ·rename_i l hd; rw [hd] at hu
     cases h1
     simp only [aA.at_, Option.some.injEq, Prod.mk.injEq] at h
     obtain ⟨rfl, rfl⟩ := h
     exact ⟨hpc, _, rfl, by
      have es : (⟨l.toArray⟩ : ByteArray).size = l.length := List.size_toArray ..
      simp [builtin, Builtin.len_, run_underlying hu, goInt, es, Ix.den]⟩
    ·rename_i hd; rw [hd] at hu
     simp only [aA.at_, Option.some.injEq, Prod.mk.injEq] at h
     obtain ⟨rfl, rfl⟩ := h
     exact ⟨hpc, _, rfl, by cases v <;> simp [builtin, Builtin.len_, run_underlying hu, goInt, Ix.den]⟩
    ·rename_i hd; rw [hd] at hu
     cases h1
     simp only [aA.at_, Option.some.injEq, Prod.mk.injEq] at h
     obtain ⟨rfl, rfl⟩ := h
     exact ⟨hpc, _, rfl, by simp [builtin, Builtin.len_, run_underlying hu, goInt, Ix.den]⟩
    ·rename_i a n c hd; rw [hd] at hu
     obtain ⟨b', o⟩ := a
     obtain ⟨B, K, m, _, rfl, _⟩ := eQ h1
     simp only [aA.at_, Option.some.injEq, Prod.mk.injEq] at h
     obtain ⟨rfl, rfl⟩ := h
     exact ⟨hpc, _, rfl, by simp [builtin, Builtin.len_, run_underlying hu, goInt, Ix.den]⟩
    ·rename_i b' n c hd; rw [hd] at hu
     obtain ⟨B, K, _, rfl⟩ := EC h1
     simp only [aA.at_, Option.some.injEq, Prod.mk.injEq] at h
     obtain ⟨rfl, rfl⟩ := h
     exact ⟨hpc, _, rfl, by simp [builtin, Builtin.len_, run_underlying hu, goInt, Ix.den]⟩
    ·rename_i b' q c hd; rw [hd] at hu
     obtain ⟨B, K, _, rfl⟩ := EC h1
     split at h
     ·rename_i hdec
      cases hf : C.D.fits pc q with
      | false => rw [hf] at h; cases h
      | true =>
       rw [hf] at h
       simp only [cond_true, aA.at_, Option.some.injEq, Prod.mk.injEq] at h
       obtain ⟨rfl, rfl⟩ := h
       have h1 := hC.D.dec pc _ _ hdec hpc
       have h2 := hC.D.fits pc q hf hpc
       simp only [fE.den, jR] at h1
       have h1 := of_decide_eq_false h1
       have e : ((Ix.poly q).den η).toNat = (Ix.poly q).den η := by
        simp only [Ix.den, h2]; omega
       exact ⟨hpc, _, rfl, by simp [builtin, Builtin.len_, run_underlying hu, goInt]; omega⟩
     ·cases h
    ·rename_i hd; rw [hd] at hu
     cases h1
     simp only [aA.at_, Option.some.injEq, Prod.mk.injEq] at h
     obtain ⟨rfl, rfl⟩ := h
     exact ⟨hpc, _, rfl, by simp [builtin, Builtin.len_, run_underlying hu, goInt, Ix.den]⟩
    ·cases h
   ·cases h
  ·cases h
 ·cases h

end
end Go.Ex


namespace Go.Ex
open Go Go.RowKit
noncomputable section

/-- What stands in a cell of plain data, as the executor has it; 'r': where it lies. -/
def cS (r : Ref) (s : Sh) (d : FD) : Sc :=
 match s with
 | .bool => .bool (tb d.b)
 | .int k => .int k (.tm d.i)
 | .str => .ostr d.s
 | .list cs => .fz r (.list cs d.ln d.fn)
theorem lL {η : Env} {E : Emb} {r : Ref} {s : Sh} {d : FD} {v : Value} (hs : s.ex d = d) (hr : bB E.z d v) (hv : r.val E = some v) : (cS r s d).den η E = some v := by
 cases s with
 | bool =>
  rw [← hs] at hr
  simp only [Sh.ex, bB] at hr
  subst hr
  simp [cS, Sc.den, dM]
 | int k =>
  rw [← hs] at hr
  simp only [Sh.ex, bB] at hr
  subst hr
  simp [cS, Sc.den, Ix.den]
 | str =>
  rw [← hs] at hr
  simp only [Sh.ex, bB] at hr
  subst hr
  simp [cS, Sc.den]
 | list cs =>
  rw [← hs] at hr
  exact aI.2 ⟨hv, hr⟩

/-- The cells j .. of an element of a frozen row. -/
def sE (r : Ref) (cs : List Sh) (f : Nat → Nat → FD) (i : Nat) : Nat → Nat → List Sc
 | 0, _ => []
 | m + 1, j => cS (.elem r (i * cs.length + j)) (iD cs j) (f i j) :: sE r cs f i m (j + 1)

theorem nT {η : Env} {E : Emb} {r : Ref} {cs : List Sh} {n : Nat} {f : Nat → Nat → FD} {i B o c : Nat} (hr : r.val E = some (.slice (some ⟨B, o, none⟩) n c)) (hd : bB E.z (.list cs n f) (.slice (some ⟨B, o, none⟩) n c)) (hi : i < n) :
  ∀ (m j : Nat), j + m ≤ cs.length → ∃ vs, aL η E (sE r cs f i m j) = some vs ∧ vs.length = m ∧ ∀ k v, vs[k]? = some v → E.z B (o + (i * cs.length + (j + k))) = some v
 | 0, j, _ => ⟨[], rfl, rfl, fun k v h => by simp at h⟩
 | m + 1, j, hm => by
  obtain ⟨vs, h1, h2, h3⟩ := nT (η := η) hr hd hi m (j + 1) (by omega)
  obtain ⟨a, c', e, _, _, h4⟩ := hd
  cases e
  rcases h4 with h4 | ⟨B', o', ea, h4⟩
  ·omega
  cases ea
  obtain ⟨k1, u, k2, k3⟩ := h4 i hi j (by omega)
  have hval : (Ref.elem r (i * cs.length + j)).val E = some u := by simp only [Ref.val, hr]; exact k2
  refine ⟨u :: vs, by simp [sE, aL, lL k1 k3 hval, h1], by simp [h2], fun k v hk => ?_⟩
  cases k with
  | zero => simp at hk; subst hk; exact k2
  | succ k =>
   simp at hk
   have := h3 k v hk
   rw [show j + 1 + k = j + (k + 1) by omega] at this
   exact this

/-- A load that the open forms serve. -/
def yO (C : Cx) (hp : T Blk) (t : TypeId) (x : Sv) : Option (Option Bool × Sv) :=
 match x with
 | .one (.fptr r cs _ f i j) => match C.tt.get t with
  | some ti => bif ti.agg then (bif Nat.ble (j + ti.size) cs.length then some (none, .agg (sE r cs f i ti.size j)) else none)
    else bif Nat.blt j cs.length then some (none, .one (cS (.elem r (i * cs.length + j)) (iD cs j) (f i j))) else none
  | none => none
 | .one (.rptr b sz i j) => match C.tt.get t, hp.get b with
  | some ti, some (.row _ cs n f) => bif !ti.agg && Nat.beq sz cs.length && Nat.blt j cs.length then (match iD cs j with
    | .list _ => none
    | s => some (some (Nat.blt i n), .one (cS (.root 0 0) s (f i j)))) else none
  | some ti, some (.mat q _ _ _ x m _) => bif !ti.agg && Nat.beq sz 1 && Nat.beq j 0 then some (some (Nat.blt i x), .one (.mown b q i m)) else none
  | _, _ => none
 | .one (.mptr b q i j) => match C.tt.get t, hp.get b with
  | some ti, some (.mat q' _ s _ x m f) => bif !ti.agg && Nat.beq q q' && fM s then some (some (Nat.blt i x && Nat.blt j m), .one (cS (.root 0 0) s (f i j))) else none
  | _, _ => none
 | _ => none

theorem vS {P : Program} {w : World} {B o : Nat} {vs : List Value} (h : ∀ k v, vs[k]? = some v → w.cell? ⟨B, o + k, none⟩ = some v) : (loadCells ⟨B, o, none⟩ vs.length).run P w = .ok vs.toArray w :=
 run_loadCells_list (P := P) w ⟨B, o, none⟩ vs (fun j v hj => by rw [bE]; exact h j v hj)

theorem EH {C : Cx} {P : Program} {η : Env} {E : Emb} (hC : C.Ok P η) {hp : T Blk} {nx lo base : Nat} {w : World} (hH : aD η E hp nx lo base w) {t : TypeId} {x sv : Sv} {ob : Option Bool} {va : Value}
  (h : yO C hp t x = some (ob, sv)) (hb : ∀ b, ob = some b → b = true) (hx : x.den η E = some va) : ∃ v, sv.den η E = some v ∧ (Instr.loadAt t va).run P w = .ok v w := by
 unfold yO at h
 split at h
 ·rename_i r cs n f i j
  obtain ⟨B, o, c, h1, h2, h3, rfl⟩ := dD.1 hx
  split at h
  ·rename_i ti hti
   have hT := hC.tt t ti hti
   cases ha : ti.agg with
   | true =>
    rw [ha] at h
    simp only [cond_true] at h
    cases hle : Nat.ble (j + ti.size) cs.length with
    | false => rw [hle] at h; cases h
    | true =>
     rw [hle] at h; cases h
     obtain ⟨vs, g1, g2, g3⟩ := nT (η := η) h1 h2 h3 ti.size j (Nat.le_of_ble_eq_true hle)
     refine ⟨.agg vs.toArray, by simp [Sv.den, g1], ?_⟩
     simp only [Instr.loadAt, Instr.sureAddr, loadVar, Sem.run_bind, Sem.run_pure, Result.andThen_ok, hT.run_agg, ha, if_true, hT.run_size]
     have := vS (P := P) (w := w) (B := B) (o := o + (i * cs.length + j)) (vs := vs) (fun k v hk => by
      have := hH.zw _ _ _ (g3 k v hk)
      rw [show o + (i * cs.length + j) + k = o + (i * cs.length + (j + k)) by omega]; exact this)
     rw [g2] at this
     rw [this]; rfl
   | false =>
    rw [ha] at h
    simp only [cond_false] at h
    cases hlt : Nat.blt j cs.length with
    | false => rw [hlt] at h; cases h
    | true =>
     rw [hlt] at h; cases h
     obtain ⟨vs, g1, g2, g3⟩ := nT (η := η) h1 h2 h3 1 j (Nat.le_of_ble_eq_true hlt)
     simp only [sE] at g1
     obtain ⟨v, us, e1, e2, rfl⟩ := aP g1
     refine ⟨v, e1, ?_⟩
     have := hH.zw _ _ _ (g3 0 v rfl)
     simp only [Instr.loadAt, Instr.sureAddr, loadVar, Sem.run_bind, Sem.run_pure, Result.andThen_ok, hT.run_agg, ha, Bool.false_eq_true, if_false, run_load]
     rw [show o + (i * cs.length + j) = o + (i * cs.length + (j + 0)) by omega, this]
  ·cases h
 ·rename_i b sz i j
  obtain ⟨B, K, hE, rfl⟩ := sD hx
  split at h
  ·rename_i ti e cs n f hti hbk
   have hT := hC.tt t ti hti
   cases hc : (!ti.agg && Nat.beq sz cs.length && Nat.blt j cs.length) with
   | false => rw [hc] at h; cases h
   | true =>
    rw [hc] at h
    simp only [Bool.and_eq_true] at hc
    obtain ⟨⟨ha, hsz⟩, hj⟩ := hc
    have ha : ti.agg = false := by simpa using ha
    have hsz := Nat.eq_of_beq_eq_true hsz
    have hj := Nat.le_of_ble_eq_true hj
    subst hsz
    obtain ⟨B', K', hE', c, h1, h2, h3, h4, h5, h6⟩ := hH.cell b _ hbk
    rw [hE] at hE'; cases hE'
    have fin : ∀ s, iD cs j = s → (∀ l, s ≠ .list l) → some (some (Nat.blt i n), Sv.one (cS (.root 0 0) s (f i j))) = some (ob, sv) → ∃ v, sv.den η E = some v ∧ (Instr.loadAt t (.pointer (some ⟨B, i * cs.length + j, none⟩))).run P w = .ok v w := by
     intro s hs hl h
     cases h
     have hi := Nat.le_of_ble_eq_true (hb _ rfl)
     obtain ⟨k1, u, k2, k3⟩ := h6 i hi j hj
     rw [hs] at k1
     have hd : (cS (.root 0 0) s (f i j)).den η E = some u := by
      rw [← k1] at k3
      cases s with
      | bool => simp only [Sh.ex, bB] at k3; subst k3; simp [cS, Sc.den, dM]
      | int k => simp only [Sh.ex, bB] at k3; subst k3; simp [cS, Sc.den, Ix.den]
      | str => simp only [Sh.ex, bB] at k3; subst k3; simp [cS, Sc.den]
      | list l => exact absurd rfl (hl l)
     refine ⟨u, hd, ?_⟩
     simp only [Instr.loadAt, Instr.sureAddr, loadVar, Sem.run_bind, Sem.run_pure, Result.andThen_ok, hT.run_agg, ha, Bool.false_eq_true, if_false, run_load]
     rw [cell_of_row w B (i * cs.length + j) c e (0, 0) h1, k2]
    simp only [cond_true] at h
    split at h
    ·cases h
    ·rename_i hne
     exact fin _ rfl (fun l hl => hne l hl) h
  ·rename_i ti q e s n x m f hti hbk
   have hT := hC.tt t ti hti
   cases hc : (!ti.agg && Nat.beq sz 1 && Nat.beq j 0) with
   | false => rw [hc] at h; cases h
   | true =>
    rw [hc] at h
    simp only [Bool.and_eq_true] at hc
    obtain ⟨⟨ha, hsz⟩, hj⟩ := hc
    have ha : ti.agg = false := by simpa using ha
    have hsz := Nat.eq_of_beq_eq_true hsz
    have hj := Nat.eq_of_beq_eq_true hj
    subst hsz; subst hj
    cases h
    have hi : i < x := Nat.le_of_ble_eq_true (hb _ rfl)
    obtain ⟨B0, K0, c, k1, k2, k3, k4, k5⟩ := hH.mt.row b q e s n x m f hbk
    rw [hE] at k1; cases k1
    obtain ⟨B', L, l1, l2, c', e', l3, l4, l5, l6, l7⟩ := k4 i hi
    refine ⟨.slice (some ⟨B', 0, none⟩) m L, ?_, ?_⟩
    ·show (match E.m q i with
      | some B => if m ≤ B.2 then some (Value.slice (some ⟨B.1, 0, none⟩) m B.2) else none
      | none => none) = _
     rw [l1]
     simp only
     rw [if_pos l5]
    ·simp only [Instr.loadAt, Instr.sureAddr, loadVar, Sem.run_bind, Sem.run_pure, Result.andThen_ok, hT.run_agg, ha, Bool.false_eq_true, if_false, run_load]
     rw [cell_of_row w B (i * 1 + 0) c e (0, 0) k2, Nat.mul_one, Nat.add_zero, l2]
  ·cases h
 ·rename_i b q i j
  have hx : (E.m q i).map (fun B => Value.pointer (some ⟨B.1, j, none⟩)) = some va := hx
  split at h
  ·rename_i ti q' e s n x m f hti hbk
   have hT := hC.tt t ti hti
   cases hc : (!ti.agg && Nat.beq q q' && fM s) with
   | false => rw [hc] at h; cases h
   | true =>
    rw [hc] at h
    simp only [Bool.and_eq_true] at hc
    obtain ⟨⟨ha, hq⟩, hp'⟩ := hc
    have ha : ti.agg = false := by simpa using ha
    have hq := Nat.eq_of_beq_eq_true hq
    subst hq
    cases h
    have hin := hb _ rfl
    simp only [Bool.and_eq_true] at hin
    have hi : i < x := Nat.le_of_ble_eq_true hin.1
    have hj : j < m := Nat.le_of_ble_eq_true hin.2
    obtain ⟨B0, K0, c, k1, k2, k3, k4, k5⟩ := hH.mt.row b q e s n x m f hbk
    obtain ⟨B', L, l1, l2, c', e', l3, l4, l5, l6, l7⟩ := k4 i hi
    rw [l1] at hx
    cases hx
    obtain ⟨r1, u, r2, r3⟩ := l7 j hj
    refine ⟨u, ?_, ?_⟩
    ·rw [← r1] at r3
     cases s with
     | bool => simp only [Sh.ex, bB] at r3; subst r3; simp [cS, Sv.den, Sc.den, dM]
     | int k => simp only [Sh.ex, bB] at r3; subst r3; simp [cS, Sv.den, Sc.den, Ix.den]
     | str => simp only [Sh.ex, bB] at r3; subst r3; simp [cS, Sv.den, Sc.den]
     | list l => cases hp'
    ·simp only [Instr.loadAt, Instr.sureAddr, loadVar, Sem.run_bind, Sem.run_pure, Result.andThen_ok, hT.run_agg, ha, Bool.false_eq_true, if_false, run_load]
     rw [cell_of_row w B' j c' e' (0, 0) l3, r2]
  ·cases h
 ·cases h

/-! ## Places -/
def tL (C : Cx) (t : TypeId) (x : Sv) (f : Nat) : Option Sv :=
 match C.tt.get t, x with
 | some ti, .one (.fptr r cs n g i j) => match ti.d with
  | .struct fs => match nth fs.toList f with
   | some fl => match C.tt.get fl.type with
    | some fi => bif Nat.beq fi.size 0 then none else some (.one (.fptr r cs n g i (j + fl.offset)))
    | none => none
   | none => none
  | _ => none
 | some ti, .one (.rptr b sz i j) => match ti.d with
  | .struct fs => match nth fs.toList f with
   | some fl => match C.tt.get fl.type with
    | some fi => bif Nat.beq fi.size 0 then none else some (.one (.rptr b sz i (j + fl.offset)))
    | none => none
   | none => none
  | _ => none
 | _, _ => none
theorem pO {C : Cx} {P : Program} {η : Env} {E : Emb} (hC : C.Ok P η) {t : TypeId} {x sv : Sv} {f : Nat} {va : Value} (h : tL C t x f = some sv) (hx : x.den η E = some va) :
  ∃ v, sv.den η E = some v ∧ ∀ w, (Instr.fieldAt t va f).run P w = .ok v w := by
 unfold tL at h
 split at h
 ·rename_i ti r cs n g i j hti
  have hT := (hC.tt t ti hti).und
  split at h
  ·rename_i fs hd
   rw [hd] at hT
   split at h
   ·rename_i fl hf
    split at h
    ·rename_i fi hfi
     cases hz : Nat.beq fi.size 0 with
     | true => rw [hz] at h; cases h
     | false =>
      rw [hz] at h; cases h
      obtain ⟨B, o, c, h1, h2, h3, rfl⟩ := dD.1 hx
      refine ⟨_, dD.2 ⟨B, o, c, h1, h2, h3, rfl⟩, fun w => ?_⟩
      rw [cI, Array.getElem?_toList] at hf
      have hz := Nat.ne_of_beq_eq_false hz
      simp [Instr.fieldAt, run_underlying hT, hf, Instr.sureAddr, fieldPlace, (hC.tt fl.type fi hfi).run_size, hz, bE, Nat.add_assoc]
    ·cases h
   ·cases h
  ·cases h
 ·rename_i ti b sz i j hti
  have hT := (hC.tt t ti hti).und
  split at h
  ·rename_i fs hd
   rw [hd] at hT
   split at h
   ·rename_i fl hf
    split at h
    ·rename_i fi hfi
     cases hz : Nat.beq fi.size 0 with
     | true => rw [hz] at h; cases h
     | false =>
      rw [hz] at h; cases h
      obtain ⟨B, K, hE, rfl⟩ := sD hx
      refine ⟨_, M1 hE, fun w => ?_⟩
      rw [cI, Array.getElem?_toList] at hf
      have hz := Nat.ne_of_beq_eq_false hz
      simp [Instr.fieldAt, run_underlying hT, hf, Instr.sureAddr, fieldPlace, (hC.tt fl.type fi hfi).run_size, hz, bE, Nat.add_assoc]
    ·cases h
   ·cases h
  ·cases h
 ·cases h

/-- The number of an index, known or a term. -/
def ixN (x : Sv) : Option Int :=
 match x with
 | .one (.int _ i) => gQ i
 | _ => none
theorem kL {η : Env} {E : Emb} {x : Sv} {n : Int} {va : Value} (h : ixN x = some n) (hx : x.den η E = some va) : ∃ k, va = .int k n := by
 unfold ixN at h
 split at h
 ·rename_i k i
  cases hx
  exact ⟨k, by rw [cH h]⟩
 ·cases h
def HB (i : Int) (n : Nat) : Bool := decide (0 ≤ i) && decide (i < (n : Int))
def KQ (C : Cx) (t : TypeId) (x ix : Sv) : Option (Option Bool × Sv) :=
 match C.tt.get t, x, ixN ix with
 | some ti, .one (.fz r (.list cs n f)), some i => match ti.d with
  | .slice e => match C.tt.get e with
   | some ei => bif Nat.beq ei.size cs.length then some (some (HB i n), .one (.fptr r cs n f i.toNat 0)) else none
   | none => none
  | _ => none
 | some ti, .one (.own b n), some i => match ti.d with
  | .slice e => match C.tt.get e with
   | some ei => some (some (HB i n), .one (.rptr b ei.size i.toNat 0))
   | none => none
  | _ => none
 | some ti, .one (.mown b q r n), some i => match ti.d with
  | .slice e => match C.tt.get e with
   | some ei => bif Nat.beq ei.size 1 then some (some (HB i n), .one (.mptr b q r i.toNat)) else none
   | none => none
  | _ => none
 | _, _, _ => none
theorem KR {C : Cx} {P : Program} {η : Env} {E : Emb} (hC : C.Ok P η) {t : TypeId} {x ix sv : Sv} {ob : Option Bool} {va vi : Value} (h : KQ C t x ix = some (ob, sv)) (hb : ∀ b, ob = some b → b = true) (hx : x.den η E = some va) (hi : ix.den η E = some vi) :
  ∃ v, sv.den η E = some v ∧ ∀ w, (Instr.indexAt t va vi).run P w = .ok v w := by
 unfold KQ at h
 split at h
 ·rename_i ti r cs n f i hti hix
  have hT := (hC.tt t ti hti).und
  obtain ⟨k, rfl⟩ := kL hix hi
  split at h
  ·rename_i e hd
   rw [hd] at hT
   split at h
   ·rename_i ei hei
    cases hsz : Nat.beq ei.size cs.length with
    | false => rw [hsz] at h; cases h
    | true =>
     rw [hsz] at h; cases h
     have hsz := Nat.eq_of_beq_eq_true hsz
     have hin := hb _ rfl
     simp only [HB, Bool.and_eq_true, decide_eq_true_eq] at hin
     obtain ⟨h1, h2⟩ := aI.1 hx
     have h2' := h2
     obtain ⟨a, c, rfl, g2, g3, g4⟩ := h2
     rcases g4 with g4 | ⟨B, o, rfl, g4⟩
     ·omega
     refine ⟨.pointer (some ⟨B, o + (i.toNat * cs.length + 0), none⟩), dD.2 ⟨B, o, c, h1, h2', by omega, rfl⟩, fun w => ?_⟩
     simp [Instr.indexAt, asIntOf, run_underlying hT, hin, (hC.tt e ei hei).run_size, bE, hsz]
   ·cases h
  ·cases h
 ·rename_i ti b n i hti hix
  have hT := (hC.tt t ti hti).und
  obtain ⟨k, rfl⟩ := kL hix hi
  split at h
  ·rename_i e hd
   rw [hd] at hT
   split at h
   ·rename_i ei hei
    cases h
    have hin := hb _ rfl
    simp only [HB, Bool.and_eq_true, decide_eq_true_eq] at hin
    obtain ⟨B, K, hE, rfl, hn⟩ := hU hx
    refine ⟨_, M1 hE, fun w => ?_⟩
    simp [Instr.indexAt, asIntOf, run_underlying hT, hin, (hC.tt e ei hei).run_size, bE]
   ·cases h
  ·cases h
 ·rename_i ti b q r n i hti hix
  have hT := (hC.tt t ti hti).und
  obtain ⟨k, rfl⟩ := kL hix hi
  split at h
  ·rename_i e hd
   rw [hd] at hT
   split at h
   ·rename_i ei hei
    cases hsz : Nat.beq ei.size 1 with
    | false => rw [hsz] at h; cases h
    | true =>
     rw [hsz] at h; cases h
     have hsz := Nat.eq_of_beq_eq_true hsz
     have hin := hb _ rfl
     simp only [HB, Bool.and_eq_true, decide_eq_true_eq] at hin
     have hx : (match E.m q r with
      | some B => if n ≤ B.2 then some (Value.slice (some ⟨B.1, 0, none⟩) n B.2) else none
      | none => none) = some va := hx
     split at hx
     ·rename_i X hE
      split at hx
      ·cases hx
       refine ⟨.pointer (some ⟨X.1, i.toNat, none⟩), ?_, fun w => ?_⟩
       ·show (E.m q r).map _ = _
        rw [hE]; rfl
       ·simp [Instr.indexAt, asIntOf, run_underlying hT, hin, (hC.tt e ei hei).run_size, bE, hsz]
      ·cases hx
     ·cases hx
   ·cases h
  ·cases h
 ·cases h

/-- A byte of a text. -/
def QC (x : Sv) : Option (List UInt8) :=
 match x with
 | .one (.str l) => some l
 | .one (.ostr l) => some l
 | _ => none
theorem OM {η : Env} {E : Emb} {x : Sv} {l : List UInt8} {va : Value} (h : QC x = some l) (hx : x.den η E = some va) : va = .string ⟨l.toArray⟩ := by
 unfold QC at h
 split at h <;> first | (cases h; cases hx; rfl) | cases h
def vB (x : Sv) : Bool :=
 match x with
 | .one (.int _ (.tm _)) => true
 | .one (.ostr _) => true
 | _ => false
def tM (C : Cx) (t : TypeId) (x ix : Sv) : Option (Option Bool × Sv) :=
 bif vB x || vB ix then match C.tt.get t, QC x, ixN ix with
 | some ti, some l, some i => match ti.d with
  | .string => some (some (HB i l.length), .one (.int .u8 (.tm (.ofNat (l.getD i.toNat 0).toNat))))
  | _ => none
 | _, _, _ => none
 else none
theorem BS {C : Cx} {P : Program} {η : Env} {E : Emb} (hC : C.Ok P η) {t : TypeId} {x ix sv : Sv} {ob : Option Bool} {va vi : Value} (h : tM C t x ix = some (ob, sv)) (hb : ∀ b, ob = some b → b = true) (hx : x.den η E = some va) (hi : ix.den η E = some vi) :
  ∃ v, sv.den η E = some v ∧ ∀ w, (Instr.index t va vi).run P w = .ok v w := by
 unfold tM at h
 cases hc : (vB x || vB ix) with
 | false => rw [hc] at h; cases h
 | true =>
  rw [hc] at h
  simp only [cond_true] at h
  split at h
  ·rename_i ti l i hti hl hix
   have hT := (hC.tt t ti hti).und
   obtain ⟨k, rfl⟩ := kL hix hi
   have e := OM hl hx
   subst e
   split at h
   ·rename_i hd
    rw [hd] at hT
    cases h
    have hin := hb _ rfl
    simp only [HB, Bool.and_eq_true, decide_eq_true_eq] at hin
    have hlt : i.toNat < l.length := by omega
    refine ⟨_, rfl, fun w => ?_⟩
    have hg : (⟨l.toArray⟩ : ByteArray)[i.toNat]? = some (l[i.toNat]'hlt) := by
     have : i.toNat < (⟨l.toArray⟩ : ByteArray).size := by simpa [ByteArray.size] using hlt
     have e : (⟨l.toArray⟩ : ByteArray)[i.toNat]'this = l[i.toNat]'hlt := rfl
     rw [getElem?_pos (⟨l.toArray⟩ : ByteArray) i.toNat this, e]
    have e2 : l.getD i.toNat 0 = l[i.toNat]'hlt := by simp [List.getD, List.getElem?_eq_getElem hlt]
    have h0 : ¬ i < 0 := by omega
    simp [Instr.index, asIntOf, run_underlying hT, hg, Ix.den, hin]
    try omega
   ·cases h
  ·cases h

/-! ## Slices -/
def ON (x : Option Sv) (d : Int) : Option Int :=
 match x with
 | none => some d
 | some s => ixN s
theorem nU {P : Program} {η : Env} {E : Emb} (w : World) {isS : Bool} {len cap : Nat} {lo hi : Option Sv} {vl vh : Option Value} {l h : Int} (hl : ON lo 0 = some l) (hh : ON hi len = some h)
  (rl : mI η E lo vl) (rh : mI η E hi vh) (h0 : 0 ≤ l) (h1 : l ≤ h) (h2 : h ≤ (cap : Int)) : (Instr.sliceBounds isS len cap vl vh none).run P w = .ok (l.toNat, h.toNat, cap) w := by
 have hiRun : (match vh with
   | some v => Instr.sliceBound v cap (if isS then .sliceAcap else .sliceAlen)
   | none => pure len : Sem Nat).run P w = .ok h.toNat w := by
  cases hi with
  | none =>
   cases vh with
   | none => cases hh; simp
   | some v => cases rh
  | some s =>
   cases vh with
   | none => cases rh
   | some v =>
    obtain ⟨k, rfl⟩ := kL hh rh
    have hb : (0 : Int) ≤ h ∧ h ≤ (cap : Int) := by omega
    simp [Instr.sliceBound, asIntOf, hb]
 have loRun : (match vl with
   | some v => Instr.sliceBound v h.toNat .sliceB
   | none => pure 0 : Sem Nat).run P w = .ok l.toNat w := by
  cases lo with
  | none =>
   cases vl with
   | none => cases hl; rfl
   | some v => cases rl
  | some s =>
   cases vl with
   | none => cases rl
   | some v =>
    obtain ⟨k, rfl⟩ := kL hl rl
    have hb : (0 : Int) ≤ l ∧ l ≤ ((h.toNat : Nat) : Int) := by omega
    simp only [Instr.sliceBound, asIntOf, Sem.run_bind, Sem.run_pure, Result.andThen_ok, if_pos hb]
 unfold Instr.sliceBounds
 cases vh <;> cases vl <;> simp_all

def kM (l h : Int) (n : Nat) : Bool := decide (0 ≤ l) && (decide (l ≤ h) && decide (h ≤ (n : Int)))
def tN (C : Cx) (t : TypeId) (x : Sv) (lo hi : Option Sv) : Option (Option Bool × Sv) :=
 match C.tt.get t, x, ON lo 0 with
 | some ti, .one (.fz r (.list cs n f)), some l => match ti.d with
  | .slice e => match C.tt.get e, ON hi n with
   | some ei, some h => bif Nat.beq ei.size cs.length then some (some (kM l h n), .one (.fz (.sub r cs.length l.toNat (h - l).toNat) (.list cs (h - l).toNat fun i j => f (l.toNat + i) j))) else none
   | _, _ => none
  | _ => none
 | some ti, .one (.own b n), some l => match ti.d with
  | .slice e => match C.tt.get e, ON hi n with
   | some _, some h => bif decide (l = 0) then some (some (kM l h n), .one (.own b h.toNat)) else none
   | _, _ => none
  | _ => none
 | some ti, .one (.ostr s), some l => match ti.d with
  | .string => match ON hi s.length with
   | some h => some (some (kM l h s.length), .one (.ostr ((s.drop l.toNat).take (h - l).toNat)))
   | none => none
  | _ => none
 | _, _, _ => none
theorem BT {C : Cx} {P : Program} {η : Env} {E : Emb} (hC : C.Ok P η) {t : TypeId} {x sv : Sv} {lo hi : Option Sv} {ob : Option Bool} {va : Value} {vl vh : Option Value} (h : tN C t x lo hi = some (ob, sv)) (hb : ∀ b, ob = some b → b = true) (hx : x.den η E = some va)
  (rl : mI η E lo vl) (rh : mI η E hi vh) : ∃ v, sv.den η E = some v ∧ ∀ w, (Instr.sliceAt t va vl vh none).run P w = .ok v w := by
 unfold tN at h
 split at h
 ·rename_i ti r cs n f l hti hl
  have hT := (hC.tt t ti hti).und
  split at h
  ·rename_i e hd
   rw [hd] at hT
   split at h
   ·rename_i ei h' hei hh
    cases hsz : Nat.beq ei.size cs.length with
    | false => rw [hsz] at h; cases h
    | true =>
     rw [hsz] at h; cases h
     have hsz := Nat.eq_of_beq_eq_true hsz
     have hin := hb _ rfl
     simp only [kM, Bool.and_eq_true, decide_eq_true_eq] at hin
     obtain ⟨i1, i2, i3⟩ := hin
     obtain ⟨h1, h2⟩ := aI.1 hx
     obtain ⟨a, c, rfl, g2, g3, g4⟩ := h2
     refine ⟨.slice (if c = l.toNat then a else a.map (·.add (l.toNat * cs.length))) (h' - l).toNat (c - l.toNat), ?_, fun w => ?_⟩
     ·refine aI.2 ⟨by simp only [Ref.val, h1], _, _, rfl, by omega, by omega, ?_⟩
      rcases Nat.eq_zero_or_pos (h' - l).toNat with h0 | h0
      ·exact .inl h0
      ·rcases g4 with g4 | ⟨B, o, rfl, g4⟩
       ·omega
       refine .inr ⟨B, o + l.toNat * cs.length, by rw [if_neg (by omega)]; simp [bE], fun i hi j hj => ?_⟩
       obtain ⟨k1, u, k2, k3⟩ := g4 (l.toNat + i) (by omega) j hj
       refine ⟨k1, u, ?_, k3⟩
       rw [← k2]; congr 1; rw [Nat.add_mul]; omega
     ·have hbn := nU (P := P) (η := η) (E := E) w (isS := true) (len := n) (cap := c) hl hh rl rh i1 i2 (by omega)
      simp only [Instr.sliceAt, Sem.run_bind, run_underlying hT, Result.andThen_ok, Instr.slice, hbn, (hC.tt e ei hei).run_size, Sem.run_pure, hsz]
      rw [show h'.toNat - l.toNat = (h' - l).toNat by omega]
   ·cases h
  ·cases h
 ·rename_i ti b n l hti hl
  have hT := (hC.tt t ti hti).und
  split at h
  ·rename_i e hd
   rw [hd] at hT
   split at h
   ·rename_i ei h' hei hh
    cases hl0 : decide (l = 0) with
    | false => rw [hl0] at h; cases h
    | true =>
     rw [hl0] at h; cases h
     have hl0 := of_decide_eq_true hl0
     subst hl0
     have hin := hb _ rfl
     simp only [kM, Bool.and_eq_true, decide_eq_true_eq] at hin
     obtain ⟨i1, i2, i3⟩ := hin
     obtain ⟨B, K, hE, rfl, hnK⟩ := hU hx
     refine ⟨.slice (some ⟨B, 0, none⟩) h'.toNat K, EF hE (by omega), fun w => ?_⟩
     have hbn := nU (P := P) (η := η) (E := E) w (isS := true) (len := n) (cap := K) hl hh rl rh i1 i2 (by omega)
     simp only [Instr.sliceAt, Sem.run_bind, run_underlying hT, Result.andThen_ok, Instr.slice, hbn, (hC.tt e ei hei).run_size, Sem.run_pure]
     simp [Addr.add]
   ·cases h
  ·cases h
 ·rename_i ti s l hti hl
  have hT := (hC.tt t ti hti).und
  cases hx
  split at h
  ·rename_i hd
   rw [hd] at hT
   split at h
   ·rename_i h' hh
    cases h
    have hin := hb _ rfl
    simp only [kM, Bool.and_eq_true, decide_eq_true_eq] at hin
    obtain ⟨i1, i2, i3⟩ := hin
    refine ⟨_, rfl, fun w => ?_⟩
    have es : (⟨s.toArray⟩ : ByteArray).size = s.length := by simp [ByteArray.size]
    rw [← es] at hh i3
    have hbn := nU (P := P) (η := η) (E := E) w (isS := false) hl hh rl rh i1 i2 i3
    simp only [Instr.sliceAt, Sem.run_bind, run_underlying hT, Result.andThen_ok, Instr.slice, Option.isSome_none, Bool.false_eq_true, if_false, Sem.run_pure, hbn]
    congr 2
    apply ByteArray.ext
    simp [ByteArray.data_extract, List.extract_toArray, List.extract_eq_take_drop]
    congr 1; omega
   ·cases h
  ·cases h
 ·cases h

end
end Go.Ex

