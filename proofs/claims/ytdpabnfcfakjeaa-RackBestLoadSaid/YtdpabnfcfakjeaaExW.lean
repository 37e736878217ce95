/-
 Ranges over functions: the rule.
-/
import Derived.Test.YtdpabnfcfakjeaaExU
import Derived.RangeFuncNested
import Derived.RangeFuncBound
import Derived.RangeFuncCalls

namespace Go.Ex
open Go Go.RowKit
noncomputable section

/-- The cells of these blocks hold these values. -/
def gC (Bs : List Nat) (nums : List (List Value)) (W : World) : Prop := ∀ (i B : Nat) (vs : List Value) (o : Nat) (v : Value), Bs[i]? = some B → nums[i]? = some vs → vs[o]? = some v → W.cell? ⟨B, o, none⟩ = some v
def nZ (Bs : List Nat) (nums : List (List Value)) (W W' : World) : Prop := gC Bs nums W → gC Bs nums W'
/-- What an iterator hands out: the elements of a list, in their order. -/
def K9 (P : Program) (gf : FuncId) (nums : List (List Value)) {α : Type} (args : α → List Value) (xs : List α) : Prop :=
 (∀ as w, (callFunc gf as).run P w = .ok (.enter gf as) w) ∧ ∀ (Bs : List Nat) (W : World) (n : Nat), 6 ≤ n → Bs.length = nums.length → gC Bs nums W →
  SeqStopsK (FW none) n P gf (Bs.map fun B => .pointer (some ⟨B, 0, none⟩)).toArray (fun x => (args x).toArray) (nZ Bs nums) (fun ys => ys = xs) (fun pre => pre <+: xs) xs.length W

structure sK where
 α : Type
 xs : List α
 args : α → List Sc
 gf : FuncId
 nums : List (List Sc)
 G : List α → Prop
 bl : List α → List (Nat × Blk)
 nx : Nat
 xid : Nat
 Gx : List α → Prop
 np : Nat
/-- Scalars alone. -/
def sL : Sc → Bool
 | .bool _ => true
 | .int _ _ => true
 | .str _ => true
 | .ostr _ => true
 | _ => false
theorem O1 {η : Env} {c : Sc} (h : sL c = true) : ∃ v, ∀ E, c.den η E = some v := by
 cases c with
 | bool b => exact ⟨_, fun _ => rfl⟩
 | int k x => exact ⟨_, fun _ => rfl⟩
 | str l => exact ⟨_, fun _ => rfl⟩
 | ostr l => exact ⟨_, fun _ => rfl⟩
 | _ => cases h
theorem zG {η : Env} : ∀ {l : List Sc}, l.all sL = true → ∃ vs, (∀ E, aL η E l = some vs) ∧ vs.length = l.length
 | [], _ => ⟨[], fun _ => rfl, rfl⟩
 | c :: l, h => by
  simp only [List.all_cons, Bool.and_eq_true] at h
  obtain ⟨v, h1⟩ := O1 (η := η) h.1
  obtain ⟨vs, h2, h3⟩ := zG (η := η) h.2
  exact ⟨v :: vs, fun E => by simp only [aL, h1, h2], by simp [h3]⟩
def kS (η : Env) (l : List Sc) : List Value := (aL η ⟨fun _ => none, fun _ _ => none, fun _ _ => none, fun _ => none, ⟨[], fun _ _ => none⟩, fun _ _ => none⟩ l).getD []
theorem tX {η : Env} {l : List Sc} (h : l.all sL = true) (E : Emb) : aL η E l = some (kS η l) ∧ (kS η l).length = l.length := by
 obtain ⟨vs, h1, h2⟩ := zG (η := η) h
 simp only [kS, h1, Option.getD_some, h2, and_self]
def sK.Ok (R : sK) (P : Program) (η : Env) : Prop :=
 K9 P R.gf (R.nums.map (kS η)) (fun x => kS η (R.args x)) R.xs ∧ R.nums.all (fun l => l.all sL) = true ∧ ∀ x, (R.args x).all sL = true ∧ (R.args x).length = R.np

def sK.rho (R : sK) (nx0 : Nat) (hp : T Blk) (pre : List R.α) : List (Nat × Nat) := K8 hp (R.bl pre) (K8 hp (R.bl pre) (K8 hp (R.bl pre) (idP nx0)))
def WL : Blk → Bool
 | .map _ _ _ => false
 | _ => true
/-- The blocks are as the invariant says eG 'pre'; new blocks are no maps. -/
def sK.fits (R : sK) (nx0 lo : Nat) (hp : T Blk) (pre : List R.α) : Prop :=
 (OZ (R.rho nx0 hp pre) nx0 R.nx lo && (CX 65535 (R.bl pre) && Nat.ble nx0 R.nx && Nat.ble R.nx 65000 && (R.rho nx0 hp pre).all (fun p => Nat.blt p.1 nx0 || match (T.ofList (R.bl pre)).get p.1 with
  | some b => WL b
  | none => false))) = true ∧ fI id (R.rho nx0 hp pre) R.nx hp (R.bl pre)
/-- The captured blocks hold the numbers. -/
def EZ (hp : T Blk) : List (Nat × Nat) → List (List Sc) → Prop
 | [], [] => True
 | a :: caps, l :: nums => (a.2 = 0 ∧ match hp.get a.1 with
  | some (.cells _ _ l') => l' = l
  | _ => False) ∧ EZ hp caps nums
 | _, _ => False
def H4 : List Tmp → List Sc → T Sv → T Sv
 | p :: ps, c :: cs, tm => H4 ps cs (tm.set p (some (.one c)))
 | _, _, tm => tm
/-- Moves alone. -/
def E4 (nt : Nat) : List Oper → T Sv → Option (T Sv)
 | [], tm => some tm
 | o :: l, tm => match o.op, o.guard, o.dst with
  | .assign x, none, some d => match evX tm x with
   | some s => bif Nat.blt d nt then E4 nt l (tm.set d (some s)) else none
   | none => none
  | _, _, _ => none
def mR (nt : Nat) : Code → T Sv → Option (T Sv)
 | .skip, tm => some tm
 | .seq a b, tm => match mR nt a tm with
  | some tm => mR nt b tm
  | none => none
 | .region _ ops false, tm => E4 nt ops.toList tm
 | _, _ => none

variable {P : Program} {ro : Option Nat} {m : Nat}
theorem CZ {η : Env} {E : Emb} {nt : Nat} (hnt : nt ≤ 60000) {ops : Array Oper} {Q : Exit → Act → World → Prop} {w : World} : ∀ (l : List Oper) (k : Nat) (tm tm' : T Sv) (a : Act), (∀ j, l[j]? = ops[k + j]?) → E4 nt l tm = some tm' → gO η E tm a → a.tmps.size = nt →
  (∀ a', gO η E tm' a' → a'.tmps.size = nt → a'.defers = a.defers → Q .normal a' w) → wpOpsIn (FW ro) m P ops Q (List.range' k l.length) a w
 | [], k, tm, tm', a, _, h, hf, hs, hQ => by
  cases h
  simp only [List.length_nil, List.range'_zero, wpOpsIn]
  exact hQ a hf hs rfl
 | o :: l, k, tm, tm', a, hl, h, hf, hs, hQ => by
  simp only [E4] at h
  split at h
  ·rename_i x d ho hg hd
   split at h
   ·rename_i s hx
    cases hb : Nat.blt d nt with
    | false => rw [hb] at h; cases h
    | true =>
     rw [hb] at h
     have hdn : d < nt := Nat.le_of_ble_eq_true hb
     have hoo : ops[k]? = some o := by have := hl 0; simpa using this.symm
     have hl' : ∀ j, l[j]? = ops[k + 1 + j]? := fun j => by have := hl (j + 1); simpa [Nat.add_assoc, Nat.add_comm 1 j] using this
     simp only [List.length_cons, List.range'_succ]
     rw [wpOpsIn_cons]
     unfold wpOpIn
     simp only [hoo, Region.wanted, hg, if_true]
     have hv := hf.orel x s hx
     refine eN (v := a.eval x) (w' := w) (by obtain ⟨dst, op, type, pos, after, guard⟩ := o; simp only at ho; subst ho; rfl) ?_
     refine CZ hnt l (k + 1) _ tm' (a.put o.dst (a.eval x)) hl' h ?_ ?_ (fun a' h1 h2 h3 => hQ a' h1 h2 (h3.trans (by rw [hd]; rfl)))
     ·rw [hd]; exact hf.put (Nat.lt_of_lt_of_le hdn (by omega)) (by rw [hs]; exact hdn) hv
     ·rw [hd]; simp [Act.put, hs]
   ·cases h
  ·cases h
theorem qP {η : Env} {E : Emb} {nt : Nat} (hnt : nt ≤ 60000) {w : World} : ∀ (c : Code) (tm tm' : T Sv) (a : Act) (Q : Exit → Act → World → Prop), mR nt c tm = some tm' → gO η E tm a → a.tmps.size = nt →
  (∀ a', gO η E tm' a' → a'.tmps.size = nt → a'.defers = a.defers → Q .normal a' w) → c.wpIn (FW ro) m P Q a w
 | .skip, tm, tm', a, Q, h, hf, hs, hQ => by
  cases h
  exact wpIn_skip (hQ a hf hs rfl)
 | .seq x y, tm, tm', a, Q, h, hf, hs, hQ => by
  simp only [mR] at h
  split at h
  ·rename_i tm1 h1
   refine wpIn_seq (qP hnt x tm tm1 a _ h1 hf hs fun a1 f1 s1 d1 => ?_)
   exact qP hnt y tm1 tm' a1 Q h f1 s1 fun a2 f2 s2 d2 => hQ a2 f2 s2 (d2.trans d1)
  ·cases h
 | .region _ ops false, tm, tm', a, Q, h, hf, hs, hQ => by
  refine wpIn_region ?_
  have := CZ (P := P) (ro := ro) (m := m) hnt (ops := ops) (Q := Q) (w := w) ops.toList 0 tm tm' a (fun j => by simp) h hf hs hQ
  rw [List.range_eq_range']
  simpa using this
 | .region _ _ true, _, _, _, _, h, _, _, _ => by cases h
 | .ret, _, _, _, _, h, _, _, _ => by cases h
 | .exit _, _, _, _, _, h, _, _, _ => by cases h
 | .cond _ _ _, _, _, _, _, h, _, _, _ => by cases h
 | .block _ _, _, _, _, _, h, _, _, _ => by cases h
 | .loop _, _, _, _, _, h, _, _, _ => by cases h
 | .rangeFunc _ _ _ _, _, _, _, _, h, _, _, _ => by cases h
 | .goto _, _, _, _, _, h, _, _, _ => by cases h

theorem C0 {η : Env} {E : Emb} {nt : Nat} (hnt : nt ≤ 60000) : ∀ (ps : List Tmp) (cs : List Sc) (vs : List Value) (tm : T Sv) (t : Array Value) (ds : List Deferred), ps.all (fun p => Nat.blt p nt) = true → aL η E cs = some vs → ps.length = cs.length → gO η E tm { tmps := t, defers := ds } → t.size = nt →
  gO η E (H4 ps cs tm) { tmps := (ps.zip vs).foldl (fun t (p, v) => t.setIfInBounds p v) t, defers := ds } ∧ ((ps.zip vs).foldl (fun t (p, v) => t.setIfInBounds p v) t).size = nt
 | [], [], vs, tm, t, ds, _, hv, _, hf, hs => by cases hv; exact ⟨hf, hs⟩
 | p :: ps, c :: cs, vs, tm, t, ds, hp, hv, hl, hf, hs => by
  obtain ⟨v, us, h1, h2, rfl⟩ := aP hv
  simp only [List.all_cons, Bool.and_eq_true] at hp
  have hpn : p < nt := Nat.le_of_ble_eq_true hp.1
  have hf' := hf.put (d := p) (sv := .one c) (v := v) (Nat.lt_of_lt_of_le hpn (by omega)) (by show p < t.size; rw [hs]; exact hpn) h1
  have hf' : gO η E (tm.set p (some (.one c))) { tmps := t.setIfInBounds p v, defers := ds } := hf'
  exact C0 hnt ps cs us _ _ ds hp.2 h2 (by simpa using hl) hf' (by simp [hs])
 | [], _ :: _, _, _, _, _, _, _, hl, _, _ => by simp at hl
 | _ :: _, [], _, _, _, _, _, _, hl, _, _ => by simp at hl

/-! ## Marks and what stays, set anew -/
def Emb.re (E : Emb) (d : Nat → Option Obj) (dl : Fix) : Emb := { E with d := d, dl := dl }
theorem Emb.le_re (E : Emb) (d : Nat → Option Obj) (dl : Fix) : E.le (E.re d dl) := ⟨fun _ _ h => h, fun _ _ _ h => h, fun _ _ _ h => h, fun _ _ _ h => h⟩
theorem aD.re {η : Env} {E : Emb} {hp : T Blk} {nx lo base : Nat} {w : World} (h : aD η E hp nx lo base w) {d : Nat → Option Obj} {dl : Fix} (hd : ∀ D o, d D = some o → base ≤ D ∧ w.heap[D]? = some o ∧ CB E D o ∧ ∀ i K, E i ≠ some (D, K)) (hz : dl.z0 = E.dl.z0) : aD η (E.re d dl) hp nx lo base w :=
 ⟨h.dom, fun i b hi => by obtain ⟨B, K, h1, h2⟩ := h.cell i b hi; exact ⟨B, K, h1, h2.mono (E.le_re d dl)⟩, h.inj, h.hi, h.top, h.bot, h.free, h.lim, h.zw, h.zd, h.rfree, hd, ⟨h.rn.1, fun B o v hB hv => by show dl.z0 B o = some v; rw [hz]; exact h.rn.2 B o v hB hv⟩, h.mt.keep (fun _ _ => rfl) (Nat.le_refl _) h.mt.hi (Nat.le_refl _) (fun _ _ _ _ _ _ _ _ hg => ⟨hg, rfl⟩) (fun _ _ _ h => h) (fun _ _ => rfl) (fun _ _ => rfl) h.mt.z h.mt.own⟩
theorem aD.grown {η : Env} {E : Emb} {hp : T Blk} {nx lo base : Nat} {w w' : World} {row : Option Nat} (h : aD η E hp nx lo base w) (hg : w.grownBy w' row) (hr : ∀ r, row = some r → (∃ o : Obj, w.heap[r]? = some o ∧ o.isCells = false) ∧ (∀ i K, E i ≠ some (r, K)) ∧ E.d r = none) : aD η E hp nx lo base w' := by
 have hblk : ∀ i B K, E i = some (B, K) → w'.heap[B]? = w.heap[B]? := fun i B K hE => hg.block B (h.top i B K hE) (fun e => (hr B e.symm).2.1 i K hE)
 refine ⟨h.dom, fun i b hi => ?_, h.inj, h.hi, fun i B K hE => Nat.lt_of_lt_of_le (h.top i B K hE) hg.size, Nat.le_trans h.bot hg.size, h.free, h.lim, fun B o v hz => ?_, h.zd, h.rfree, fun D o hD => ?_, h.rn, h.mt.keep (fun _ _ => rfl) (Nat.le_refl _) h.mt.hi hg.size (fun _ _ _ _ _ _ _ _ hg => ⟨hg, rfl⟩) (fun _ _ _ h => h) (fun B ⟨b', _, _, _, _, _, _, _, K', _, hE'⟩ => hblk b' B K' hE') (fun B hB => hg.block B (hB.lt h.mt) fun e => by
   obtain ⟨b', q', e', s', n', x', m', f', i', L, hgm, hi', hE'⟩ := hB
   obtain ⟨_, _, _, _, _, _, k4, _⟩ := h.mt.row _ _ _ _ _ _ _ _ hgm
   obtain ⟨B', L', l1, _, c', e'', l3, _⟩ := k4 i' hi'
   rw [hE'] at l1; cases l1
   obtain ⟨o, ho, hnc⟩ := (hr B e.symm).1
   rw [l3] at ho; cases ho
   cases hnc) h.mt.z h.mt.own⟩
 ·obtain ⟨B, K, h1, h2⟩ := h.cell i b hi
  exact ⟨B, K, h1, by rw [hblk i B K h1]; exact h2⟩
 ·exact cell_kept (h.zw B o v hz) hg (fun r e => (hr r e).1)
 ·obtain ⟨q1, q2, q3, q4⟩ := h.dk D o hD
  refine ⟨q1, (hg.block D (Array.getElem?_eq_some_iff.1 q2).1 (fun e => ?_)).trans q2, q3, q4⟩
  have := (hr D e.symm).2.2
  rw [hD] at this; cases this

theorem QV {Bs : List Nat} {nums : List (List Value)} {A B C : World} (h : nZ Bs nums A B) (k : nZ Bs nums B C) : nZ Bs nums A C := fun hA => k (h hA)
theorem QW {Bs : List Nat} {nums : List (List Value)} (W : World) (l : Nat) (o o' : Obj) (hl : W.heap[l]? = some o) (hc : o.isCells = false) : nZ Bs nums W (W.putObj l o') := fun hA i B vs k v h1 h2 h3 =>
 cell_kept (hA i B vs k v h1 h2 h3) (grownBy_putObj' W l o') (fun r e => by cases e; exact ⟨o, hl, hc⟩)

theorem mS {E : Emb} : ∀ {cs : List (Nat × Nat)} {l : List Value} {hp : T Blk} {nums : List (List Sc)}, bO E cs = some l → EZ hp cs nums → ∃ Bs : List Nat, l = Bs.map (fun B => .pointer (some ⟨B, 0, none⟩)) ∧ Bs.length = nums.length ∧
  ∀ (i B : Nat) (n : List Sc), Bs[i]? = some B → nums[i]? = some n → ∃ (a : Nat × Nat) (K : Nat) (e : TypeId) (sz : Nat), cs[i]? = some a ∧ E a.1 = some (B, K) ∧ hp.get a.1 = some (.cells e sz n)
 | [], l, hp, [], h, _ => by cases h; exact ⟨[], rfl, rfl, fun i B n h => by simp at h⟩
 | a :: cs, l, hp, n :: nums, h, hc => by
  obtain ⟨⟨h0, hm⟩, hc⟩ := hc
  simp only [bO] at h
  split at h
  ·rename_i x r hx hr
   cases h
   obtain ⟨Bs, e1, e2, e3⟩ := mS hr hc
   simp only [bN, Option.map_eq_some_iff] at hx
   obtain ⟨B, hB, rfl⟩ := hx
   split at hm
   ·rename_i e sz l' hl'
    subst hm
    refine ⟨B.1 :: Bs, by simp [e1, h0], by simp [e2], fun i B' n' h1 h2 => ?_⟩
    cases i with
    | zero =>
     simp only [List.getElem?_cons_zero, Option.some.injEq] at h1 h2
     subst h1; subst h2
     exact ⟨a, B.2, e, sz, rfl, hB, hl'⟩
    | succ i =>
     simp only [List.getElem?_cons_succ] at h1 h2
     obtain ⟨a', K, e', sz', q1, q2, q3⟩ := e3 i B' n' h1 h2
     exact ⟨a', K, e', sz', by simpa using q1, q2, q3⟩
   ·exact hm.elim
  ·cases h
 | [], _, _, _ :: _, _, h => h.elim
 | _ :: _, _, _, [], _, h => h.elim

/-- What is known between two rounds. -/
def qQ (η : Env) (R : sK) (E0 : Emb) (nx0 lo base : Nat) (w0 : World) (pre : List R.α) (W : World) : Prop :=
 ∃ E, aH E0 E nx0 ∧ E.d = E0.d ∧ aD η E (T.ofList (R.bl pre)) R.nx lo base W ∧ Below base w0 W ∧ ∀ i B K, nx0 ≤ i → E i = some (B, K) → ∃ o : Obj, W.heap[B]? = some o ∧ o.isCells = true
theorem qQ.own {η : Env} {R : sK} {E0 : Emb} {nx0 lo base : Nat} {w0 w : World} {hp0 : T Blk} (hH0 : aD η E0 hp0 nx0 lo base w) : OwnFrom w.heap.size (fun pre W => qQ η R E0 nx0 lo base w0 pre W) := by
 rintro pre W W' row ⟨E, h1, h2, h3, h4, h5⟩ hg hr
 have hne : ∀ r, row = some r → (∃ o : Obj, W.heap[r]? = some o ∧ o.isCells = false) ∧ (∀ i K, E i ≠ some (r, K)) ∧ E.d r = none := by
  intro r e
  obtain ⟨hB, o, ho, hc⟩ := hr r e
  refine ⟨⟨o, ho, hc⟩, fun i K hE => ?_, ?_⟩
  ·rcases Nat.lt_or_ge i nx0 with hi | hi
   ·rw [h1.b i hi] at hE
    have := hH0.top i r K hE
    omega
   ·obtain ⟨o', ho', hc'⟩ := h5 i r K hi hE
    rw [ho] at ho'; cases ho'; rw [hc] at hc'; cases hc'
  ·rw [h2]
   cases hd : E0.d r with
   | none => rfl
   | some o' =>
    have := (Array.getElem?_eq_some_iff.1 (hH0.dk r o' hd).2.1).1
    omega
 refine ⟨E, h1, h2, h3.grown hg hne, h4.grown hg h3.bot (fun k e => ?_), fun i B K hi hE => ?_⟩
 ·have := (hr k e).1
  exact Nat.le_trans hH0.bot this
 ·obtain ⟨o, ho, hc⟩ := h5 i B K hi hE
  exact ⟨o, (grownBy_keeps_cells hg (fun r e => (hr r e).2) ho hc).trans ho, hc⟩

theorem qQ.of {η : Env} {R : sK} {E0 E1 : Emb} {nx0 nx lo base : Nat} {w0 W : World} {hp : T Blk} {pre : List R.α} (hb : ∀ i, i < nx0 → E1 i = E0 i) (hr : ∀ k, k < nx0 → ∀ j, E1.r k j = E0.r k j) (hz : ∀ B o v, E0.z B o = some v → E1.z B o = some v) (hd : ∀ D o, E0.d D = some o → E1.d D = some o) (hmm : ∀ q, q < nx0 → ∀ i, E1.m q i = E0.m q i) (hz0 : E1.dl.z0 = E0.dl.z0)
  (hH : aD η E1 hp nx lo base W) (hB : Below base w0 W) (hf : R.fits nx0 lo hp pre) : qQ η R E0 nx0 lo base w0 pre W := by
 obtain ⟨h1, h2⟩ := hf
 simp only [Bool.and_eq_true] at h1
 obtain ⟨a0, ⟨⟨a1, a2⟩, a3⟩, a4⟩ := h1
 have hρ := EV a0
 have a2 := Nat.le_of_ble_eq_true a2
 have a3 := Nat.le_of_ble_eq_true a3
 have q2 : ∀ p ∈ R.bl pre, p.1 < 65535 := fun p hp => Nat.le_of_ble_eq_true (List.all_eq_true.1 a1 p hp)
 have hS := hH.subE (rm := id) hρ q2 a3 h2 (fun k h _ => h)
 refine ⟨(subE id (R.rho nx0 hp pre) R.nx E1).re E0.d E0.dl, ?_, rfl, hS.re (fun D o hD => ?_) ?_, hB, fun i B K hi hE => ?_⟩
 ·exact ⟨fun i hi => (fH (rm := id) hρ (hρ.id i hi)).trans (hb i hi), fun k hk j => by show (if k < R.nx then E1.r k j else none) = E0.r k j; rw [if_pos (by omega)]; exact hr k hk j, hz, fun _ _ h => h, rfl, fun q hq i => by
   show (if q < R.nx then E1.m q i else none) = E0.m q i
   rw [if_pos (by omega)]; exact hmm q hq i⟩
 ·exact hS.dk D o (hd D o hD)
 ·exact hz0.symm
 ·have hE : (subE id (R.rho nx0 hp pre) R.nx E1) i = some (B, K) := hE
  obtain ⟨j, e1, _⟩ := gU hE
  have := List.all_eq_true.1 a4 _ e1
  simp only [Bool.or_eq_true] at this
  rcases this with this | this
  ·have : i < nx0 := Nat.le_of_ble_eq_true this
   omega
  ·split at this
   ·rename_i b hb'
    obtain ⟨B', K', g1, g2⟩ := hS.cell i b hb'
    rw [hE] at g1; cases g1
    cases b with
    | map ss ag f => cases this
    | cells e sz l => obtain ⟨c, vs, rest, e1, _⟩ := g2; exact ⟨_, e1, rfl⟩
    | arow l => obtain ⟨c, e, fz, vs, e1, _⟩ := g2; exact ⟨_, e1, rfl⟩
    | row e cs n f => obtain ⟨c, e1, _⟩ := g2; exact ⟨_, e1, rfl⟩
    | mat q e s n x m f => obtain ⟨c, e1, _⟩ := g2; exact ⟨_, e1, rfl⟩
   ·cases this

/-- What is owed where a round ends. -/
def zH (R : sK) (nx0 lo : Nat) (pre : List R.α) : Xt → St → Prop
 | .normal, st' => R.G pre ∧ R.fits nx0 lo st'.hp pre
 | .exit id, st' => (id = R.xid ∧ R.Gx pre) ∧ R.fits nx0 lo st'.hp pre
 | .ret, _ => False
def sK.st (R : sK) (tm : T Sv) (lo : Nat) (pre : List R.α) : St := ⟨tm, T.ofList (R.bl pre), R.nx, lo, []⟩

theorem dL.rangeF {η : Env} {nt n0 : Nat} {st : St} {g : Operand} {ps : Array Tmp} {assign body : Code} {k : List It} {Φ : Xt → St → Prop} (R : sK) (hR : R.Ok P η) {caps : List (Nat × Nat)}
  (hg : evX st.tm g = some (.one (.fn R.gf caps))) (hps : (ps.size = R.np ∧ ps.toList.all (fun p => Nat.blt p nt) = true) ∧ st.lo ≤ R.nx ∧ n0 ≤ R.nx) (hca : ∀ pre, EZ (T.ofList (R.bl pre)) caps R.nums) (hlt : caps.all (fun a => Nat.blt a.1 st.nx) = true) (h0 : R.G [] ∧ R.fits st.nx st.lo st.hp [])
  (tmA : R.α → T Sv) (hA : ∀ x, mR nt assign (H4 ps.toList (R.args x) st.tm) = some (tmA x))
  (round : ∀ l pre x, R.G pre → pre.length < R.xs.length → dL P η nt st.nx (some l) (R.st (tmA x) st.lo pre) [.code body] (zH R st.nx st.lo (pre ++ [x])))
  (done : R.G R.xs → dL P η nt n0 none (R.st st.tm st.lo R.xs) k Φ)
  (stop : ∀ pre, pre <+: R.xs → R.Gx pre → dL P η nt n0 none (R.st st.tm st.lo pre) (.code (.exit R.xid) :: k) Φ) :
  dL P η nt n0 none st (.code (.rangeFunc g ps assign body) :: k) Φ := by
 intro m E0 base w0 a w Q hm hS hn hQ
 have hm := hm rfl
 obtain ⟨⟨hps, hpn⟩, hlo, hnr⟩ := hps
 obtain ⟨⟨heg, hiter⟩, hnums, hargs⟩ := hR
 rw [dB]
 -- the iterator's value
 have eg := hS.fr.orel g _ hg
 simp only [Sv.den, Sc.den, Option.map_eq_some_iff] at eg
 obtain ⟨lb, hcs, hge⟩ := eg
 obtain ⟨Bs, hlb, hBl, hBc⟩ := mS hcs (hca [])
 have hcapB : ∀ (pre : List R.α) (E : Emb) (W : World), aH E0 E st.nx → aD η E (T.ofList (R.bl pre)) R.nx st.lo base W → gC Bs (R.nums.map (kS η)) W := by
  intro pre E W hAg hH i B vs o v h1 h2 h3
  rw [List.getElem?_map, Option.map_eq_some_iff] at h2
  obtain ⟨n, hn', rfl⟩ := h2
  obtain ⟨a1, K, _, _, q1, q2, _⟩ := hBc i B n h1 hn'
  obtain ⟨Bs', hl', _, hB'⟩ := mS (hp := T.ofList (R.bl pre)) hcs (hca pre)
  have hBB : Bs' = Bs := by
   rw [hlb] at hl'
   have := List.map_inj_right (f := fun B : Nat => (Value.pointer (some ⟨B, 0, none⟩))) (fun x y h => by simpa using h) |>.1 hl'
   exact this.symm
  subst hBB
  obtain ⟨a2, K2, e, sz, q3, q4, q5⟩ := hB' i B n h1 hn'
  rw [q1] at q3; cases q3
  obtain ⟨B3, K3, g1, g2⟩ := hH.cell _ _ q5
  have hi : a1.1 < st.nx := Nat.le_of_ble_eq_true (List.all_eq_true.1 hlt _ (List.mem_of_getElem? q1))
  rw [hAg.b _ hi, q2] at g1
  cases g1
  obtain ⟨c, vs, rest, e1, _, _, e4, e5⟩ := g2
  have hpl := List.all_eq_true.1 hnums _ (List.mem_of_getElem? hn')
  rw [(tX (η := η) hpl E).1] at e4
  cases e4
  show W.cell? ⟨B, o, none⟩ = some v
  rw [cell_of_row W B o c e (0, 0) e1]
  have : c.toList[o]? = some v := by
   rw [e5, List.getElem?_append_left (by exact (List.getElem?_eq_some_iff.1 h3).1)]; exact h3
  simpa using this
 have hI0 : qQ η R E0 st.nx st.lo base w0 [] w := qQ.of (fun _ _ => rfl) (fun _ _ _ => rfl) (fun _ _ _ h => h) (fun _ _ h => h) (fun _ _ _ => rfl) rfl hS.hr hS.bl h0.2
 have hCH : gC Bs (R.nums.map (kS η)) w := by
  obtain ⟨E, q1, _, q3, _⟩ := hI0
  exact hcapB [] E w q1 q3
 have hD0 : ∀ D o, E0.d D = some o → D < w.heap.size := fun D o hD => (Array.getElem?_eq_some_iff.1 (hS.hr.dk D o hD).2.1).1
 have after : ∀ (D : Nat) (W : World) (pre : List R.α), w.heap.size ≤ D → qQ η R E0 st.nx st.lo base w0 pre W → W.heap[D]? = some (.deferred (some [])) → ∃ E2, gA E0 E2 n0 ∧ cR η E2 nt base w0 (R.st st.tm st.lo pre) { a with defers := { target := .collected D, args := #[] } :: a.defers } W := by
  rintro D W pre hDge ⟨E, hAg, hEd, hH, hB, hstar⟩ hD
  have hfresh : E0.d D = none := by
   cases hd : E0.d D with
   | none => rfl
   | some o => have := hD0 D o hd; omega
  refine ⟨E.re (fun x => if x = D then some (.deferred (some [])) else E0.d x) ⟨BU D :: E0.dl.l, E0.dl.z0⟩, ⟨fun i hi => hAg.b i (by omega), fun k hk => hAg.r k (by omega), hAg.z, fun C o hC => ?_, rfl, fun q hq i => hAg.m q (by omega) i, [D], rfl, by simp, fun C hC => ?_⟩, fun t sv ht => ?_, hS.sz, hS.nt, ?_, ?_, hB, hlo, fun y hy => by cases hy⟩
  ·show (if C = D then _ else E0.d C) = some o
   rw [if_neg (fun e => by subst e; rw [hfresh] at hC; cases hC)]; exact hC
  ·simp only [List.mem_singleton] at hC
   subst hC
   exact ⟨by show (if C = C then _ else _) = _; rw [if_pos rfl], hfresh⟩
  ·obtain ⟨v, h1, h2⟩ := hS.fr t sv ht
   exact ⟨v, h1, Sv.den_mono ((hAg.le hS.hr).trans (E.le_re _ _)) h2⟩
  ·show BU D :: a.defers = BU D :: E0.dl.l
   rw [hS.df]
  ·refine hH.re (fun C o hC => ?_) (by rw [hAg.dl])
   have hC : (if C = D then some (.deferred (some [])) else E0.d C) = some o := hC
   by_cases e : C = D
   ·subst e
    rw [if_pos rfl] at hC
    cases hC
    refine ⟨Nat.le_trans hS.hr.bot hDge, hD, .inl rfl, fun i K hE => ?_⟩
    rcases Nat.lt_or_ge i st.nx with hi | hi
    ·rw [hAg.b i hi] at hE
     have := hS.hr.top i C K hE
     omega
    ·obtain ⟨o2, ho2, hc2⟩ := hstar i C K hi hE
     rw [hD] at ho2; cases ho2; cases hc2
   ·rw [if_neg e, ← hEd] at hC
    exact hH.dk C o hC
 refine wpIn_rangeFunc_ownH (F := FW none) (n := m) rfl (by omega) (gf := R.gf) (lb := lb.toArray) (Kp := nZ Bs (R.nums.map (kS η))) hge.symm trivial heg (encs := fun x => (kS η (R.args x)).toArray)
  (hseq := by rw [hlb]; exact hiter Bs w (m - 1) (by omega) (by simp [hBl]) hCH) (fun h k => QV h k) (fun W l o o' _ h1 h2 _ => QW W l o o' h1 h2) (Below.refl _ _) (fun x => by
   have := tX (η := η) (hargs x).1 E0
   simp only [List.size_toArray, this.2, (hargs x).2, hps])
  (I := fun pre W => R.G pre ∧ qQ η R E0 st.nx st.lo base w0 pre W) (Ix := fun c pre W => (c = .exit R.xid ∧ R.Gx pre) ∧ qQ η R E0 st.nx st.lo base w0 pre W)
  (fun s A B row hs hg hr => ⟨hs.1, qQ.own hS.hr s A B row hs.2 hg hr⟩) (fun c s A B row hs hg hr => ⟨hs.1, qQ.own hS.hr s A B row hs.2 hg hr⟩) ⟨h0.1, hI0⟩
  (Ax := fun x a' _ => gO η E0 (tmA x) a' ∧ a'.tmps.size = nt ∧ a'.defers = []) (fun x a' s A B row hs _ _ => hs) ?assign ?body ?done ?stop
 case assign =>
  intro l pre x W K hI hK
  obtain ⟨f1, f2⟩ := C0 hS.nt ps.toList (R.args x) (kS η (R.args x)) st.tm a.tmps [] hpn (tX (η := η) (hargs x).1 E0).1 (by simp [hps, (hargs x).2]) (fun t sv ht => hS.fr t sv ht) hS.sz
  have hz : (ps.zip (kS η (R.args x)).toArray).foldl (fun t (p, v) => t.setIfInBounds p v) a.tmps = (ps.toList.zip (kS η (R.args x))).foldl (fun t (p, v) => t.setIfInBounds p v) a.tmps := by
   rw [← Array.foldl_toList, Array.toList_zip]
  rw [hz]
  refine qP (ro := some l) hS.nt assign _ _ _ _ (hA x) f1 f2 (fun a' g1 g2 g3 => ?_)
  exact hK a' W (KeepsFrom.refl _ _) (fun h => h) hI ⟨g1, g2, g3⟩
 case body =>
  rintro l pre x a' W hl - ⟨hG, E, hAg, hEd, hH, hB, hstar⟩ ⟨f1, f2, f3⟩ hlen
  let dW : Nat → Option Obj := fun D => if w.heap.size ≤ D then (match W.heap[D]? with | some o => if o.isCells = true then none else some o | none => none) else E0.d D
  have hdW : ∀ D o, dW D = some o → base ≤ D ∧ W.heap[D]? = some o ∧ CB E D o ∧ ∀ i K, E i ≠ some (D, K) := by
   intro D o hD
   simp only [dW] at hD
   split at hD
   ·rename_i hge'
    split at hD
    ·rename_i o' ho'
     split at hD
     ·cases hD
     ·rename_i hnc
      cases hD
      refine ⟨Nat.le_trans hS.hr.bot hge', ho', .inl (by simpa using hnc), fun i K hE => ?_⟩
      rcases Nat.lt_or_ge i st.nx with hi | hi
      ·rw [hAg.b i hi] at hE
       have := hS.hr.top i D K hE
       omega
      ·obtain ⟨o2, ho2, hc2⟩ := hstar i D K hi hE
       rw [ho'] at ho2; cases ho2; exact hnc hc2
    ·cases hD
   ·rw [← hEd] at hD
    exact hH.dk D o hD
  have hHr := hH.re (dl := ⟨[], E.dl.z0⟩) hdW rfl
  have hSr : cR η (E.re dW ⟨[], E.dl.z0⟩) nt base W (R.st (tmA x) st.lo pre) a' W :=
   ⟨fun t sv ht => by
    obtain ⟨v, h1, h2⟩ := f1 t sv ht
    exact ⟨v, h1, Sv.den_mono ((hAg.le hS.hr).trans (E.le_re _ _)) h2⟩, f2, hS.nt, f3, hHr, Below.refl _ _, hlo, fun y hy => by cases hy⟩
  have hle : st.nx ≤ R.nx := by
   have := h0.2.1
   simp only [Bool.and_eq_true] at this
   exact Nat.le_of_ble_eq_true this.2.1.1.2
  have key := round l pre x hG hlen (m - 1 - 1) (E.re dW ⟨[], E.dl.z0⟩) base W a' W (ownPostG w.heap.size (nZ Bs (R.nums.map (kS η))) (fun pre W => R.G pre ∧ qQ η R E0 st.nx st.lo base w0 pre W) (fun c pre W => (c = .exit R.xid ∧ R.Gx pre) ∧ qQ η R E0 st.nx st.lo base w0 pre W) (pre ++ [x]) W) (fun h => by cases h) hSr hle ?_
  ·rw [dB] at key
   refine wpIn_mono key fun e a w he => ?_
   cases e with
   | normal => rw [dX, sJ] at he; exact he
   | _ => rw [bR (by simp), lQ] at he; exact he
  ·intro xt st' E' a2 W' hΦ hC _ hlo' hS'
   have hlo' : st'.lo = st.lo := hlo'
   have hH' : aD η E' st'.hp st'.nx st.lo base W' := by rw [← hlo']; exact hS'.hr
   have hkeep : KeepsFrom w.heap.size W W' := ⟨?_, fun D o hge' ho hnc => ?_⟩
   ·have hinv : R.fits st.nx st.lo st'.hp (pre ++ [x]) → qQ η R E0 st.nx st.lo base w0 (pre ++ [x]) W' := fun hf => by
     refine qQ.of (fun i hi => (hC.b i hi).trans (hAg.b i hi)) (fun k hk j => (hC.r k hk j).trans (hAg.r k hk j)) (fun B o v hv => hC.z B o v (hAg.z B o v hv)) (fun D o hD => hC.d D o ?_) (fun q hq i => (hC.m q hq i).trans (hAg.m q hq i)) (hC.z0.trans (by show E.dl.z0 = _; rw [hAg.dl])) hH' (hB.trans hS'.bl) hf
     show dW D = some o
     simp only [dW]
     rw [if_neg (by have := hD0 D o hD; omega)]; exact hD
    have hkp : R.fits st.nx st.lo st'.hp (pre ++ [x]) → nZ Bs (R.nums.map (kS η)) W W' := fun hf _ => by
     obtain ⟨E3, q1, _, q3, _⟩ := hinv hf
     exact hcapB _ E3 W' q1 q3
    cases xt with
    | normal => exact ⟨hkeep, hkp hΦ.2, hΦ.1, hinv hΦ.2⟩
    | ret => exact hΦ.elim
    | exit id => exact ⟨hkeep, ⟨by rw [hΦ.1.1], hΦ.1.2⟩, hinv hΦ.2⟩
   ·exact hS'.bl.size
   ·have hd : dW D = some o := by
     simp only [dW]
     rw [if_pos hge', ho]
     simp [hnc]
    exact (hH'.dk D o (hC.d D o hd)).2.1
 case done =>
  rintro D ys W hDge rfl ⟨hG, hI⟩ hD
  obtain ⟨E2, hC2, hS2⟩ := after D W R.xs hDge hI hD
  have := done hG m E2 base w0 _ W Q (fun _ => hm) hS2 hnr (fun x st' E' a' w' h1 h2 h3 h4 h5 => hQ x st' E' a' w' h1 (hC2.trans h2 (Nat.le_refl _)) h3 h4 h5)
  rw [dX]
  exact this
 case stop =>
  rintro D c pre W hDge hpre ⟨⟨rfl, hGx⟩, hI⟩ hD
  obtain ⟨E2, hC2, hS2⟩ := after D W pre hDge hI hD
  have := stop pre hpre hGx m E2 base w0 _ W Q (fun _ => hm) hS2 hnr (fun x st' E' a' w' h1 h2 h3 h4 h5 => hQ x st' E' a' w' h1 (hC2.trans h2 (Nat.le_refl _)) h3 h4 h5)
  rw [dB] at this
  exact this

end
end Go.Ex

