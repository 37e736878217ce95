/-
 From a run of a function's body to its contract: summaries of typed data.
-/
import Derived.Test.YtdpabnfcfakjeaaExSa
import Derived.RangeFuncNested

namespace Go.Ex
open Go Go.RowKit
noncomputable section

/-! ## Marks are taken up where a function ends -/
def Emb.unmark (E : Emb) (D : Nat) : Emb := { E with d := fun x => bif Nat.beq x D then none else E.d x }
theorem Emb.le_unmark (E : Emb) (D : Nat) : E.le (E.unmark D) := ⟨fun _ _ h => h, fun _ _ _ h => h, fun _ _ _ h => h, fun _ _ _ h => h⟩
/-- A marked block turns. -/
theorem aD.unmark {η : Env} {E : Emb} {hp : T Blk} {nx lo base : Nat} {w : World} (h : aD η E hp nx lo base w) {D : Nat} {ob : Obj} (hD : E.d D = some ob) (hnc : ob.isCells = false) (o' : Obj) : aD η (E.unmark D) hp nx lo base (w.putObj D o') := by
 obtain ⟨hb, hd, _, hne⟩ := h.dk D ob hD
 have hoth : ∀ C, C ≠ D → (w.putObj D o').heap[C]? = w.heap[C]? := fun C hC => World.putObj_heap_other hC
 have hsz : (w.putObj D o').heap.size = w.heap.size := by simp [World.putObj]
 refine ⟨h.dom, fun i b hi => ?_, h.inj, h.hi, fun i B K hE => by rw [hsz]; exact h.top i B K hE, by rw [hsz]; exact h.bot, h.free, h.lim, fun B o v hz => ?_, h.zd, h.rfree, fun C o hC => ?_, h.rn, h.mt.keep (fun _ _ => rfl) (Nat.le_refl _) h.mt.hi (by rw [hsz]; exact Nat.le_refl _) (fun _ _ _ _ _ _ _ _ hg => ⟨hg, rfl⟩) (fun _ _ _ h => h) (fun B ⟨b', q', e', s', n', x', m', f', K', hg, hE'⟩ => hoth B fun e => by subst e; exact hne b' K' hE') (fun B hB => hoth B fun e => by
   subst e
   obtain ⟨b', q', e', s', n', x', m', f', i', L, hg, hi', hE'⟩ := hB
   obtain ⟨_, _, _, _, _, _, k4, _⟩ := h.mt.row _ _ _ _ _ _ _ _ hg
   obtain ⟨B', L', l1, _, c', e'', l3, _⟩ := k4 i' hi'
   rw [hE'] at l1; cases l1
   rw [hd] at l3; cases l3
   cases hnc) h.mt.z h.mt.own⟩
 ·obtain ⟨B, K, h1, h2⟩ := h.cell i b hi
  refine ⟨B, K, h1, ?_⟩
  rw [hoth B (fun e => by subst e; exact hne i K h1)]
  exact h2.mono (E.le_unmark D)
 ·have hz : E.z B o = some v := hz
  have hc := h.zw B o v hz
  have : B ≠ D := by
   rintro rfl
   obtain ⟨x, hx, hx'⟩ := cells_of_cell hc
   have hx : w.heap[B]? = some x := hx
   rw [hd] at hx; cases hx
   rw [hnc] at hx'; cases hx'
  exact (World.cell?_of_block (a := ⟨B, o, none⟩) (hoth B this)).trans hc
 ·have hC : (bif Nat.beq C D then none else E.d C) = some o := hC
  cases hb : Nat.beq C D with
  | true => rw [hb] at hC; cases hC
  | false =>
   rw [hb] at hC
   obtain ⟨q1, q2, q3⟩ := h.dk C o hC
   exact ⟨q1, (hoth C (Nat.ne_of_beq_eq_false hb)).trans q2, q3⟩

theorem yY {C : Cx} {P : Program} {η : Env} (hC : C.Ok P η) {hp : T Blk} {nx lo base : Nat} {w0 : World} {tm : T Sv} {a : Act} {fn : Func} {s : Sv} {m : Nat} {R : Ending → World → Prop} (hs : rT C hp tm fn.results.toList = some s) :
  ∀ (Ds : List Nat) (E : Emb) (w : World), aD η E hp nx lo base w → (∀ D ∈ Ds, E.d D = some (.deferred (some []))) → Ds.Nodup → gO η E tm a → Below base w0 w →
   (∀ v E' w', s.den η E' = some v → aD η E' hp nx lo base w' → Below base w0 w' → E'.dl = E.dl → R (.returned v) w') →
   LeavesInM (FW none) m P fn a.tmps R (Ds.map BU) .returning w
 | [], E, w, hH, _, _, hf, hB, hR => by
  obtain ⟨v, h1, h2⟩ := xJ hC hH hf hs
  exact ⟨v, h2, hR v E w h1 hH hB rfl⟩
 | D :: Ds, E, w, hH, hd, hnd, hf, hB, hR => by
  have hD := hd D (List.mem_cons_self ..)
  obtain ⟨hb, hk, _⟩ := hH.dk D _ hD
  obtain ⟨n1, n2⟩ := List.nodup_cons.1 hnd
  refine ⟨by simp, .inl ⟨D, _, rfl, run_takeDeferred hk, ?_⟩⟩
  refine yY hC hs Ds (E.unmark D) _ (hH.unmark hD rfl _) (fun C hC => ?_) n2 (hf.mono (E.le_unmark D)) (hB.trans ?_) (fun v E' w' h1 h2 h3 h4 => hR v E' w' h1 h2 h3 h4)
  ·show (bif Nat.beq C D then none else E.d C) = some (.deferred (some []))
   cases hc : Nat.beq C D with
   | true => have := Nat.eq_of_beq_eq_true hc; subst this; exact absurd hC n1
   | false => exact hd C (List.mem_cons_of_mem _ hC)
  ·exact (Below.refl base w).grown (grownBy_putObj' w D _) hH.bot (fun k e => by cases e; exact hb)

/-- A function, run from its start. -/
theorem KZ {C : Cx} {P : Program} {η : Env} (hC : C.Ok P η) {f : FuncId} {fi : FI} (hF : FI.Ok P f fi) {args : List Sv} {Φ : Xt → St → Prop} {n0 nx lo : Nat} {hp : T Blk}
  (hn0 : n0 ≤ nx) (hlo : lo ≤ nx) (h : dL P η fi.ntmps n0 none ⟨dP 0 args .nil, hp, nx, lo, []⟩ [.code fi.body] Φ) (hlen : (Nat.ble args.length fi.ntmps && Nat.ble fi.ntmps 60000) = true) {E0 : Emb} {w w0 : World} {base : Nat} {vs : List Value}
  (hH : aD η E0 hp nx lo base w) (hB : Below base w0 w) (hv : aB η E0 args = some vs) (hdl : E0.dl.l = []) {R : Ending → World → Prop} {Ψ : St → Sv → Prop}
  (hx : ∀ x st', Φ x st' → (x = .normal ∨ x = .ret) ∧ ∃ s, rT C st'.hp st'.tm fi.res = some s ∧ Ψ st' s)
  (hR : ∀ st' s v E' w', Ψ st' s → s.den η E' = some v → aD η E' st'.hp st'.nx lo base w' → Below base w0 w' → E'.dl.z0 = E0.dl.z0 → R (.returned v) w') :
  Calls P f vs.toArray w R := by
 simp only [Bool.and_eq_true] at hlen
 have hb1 := Nat.le_of_ble_eq_true hlen.1
 have hb2 := Nat.le_of_ble_eq_true hlen.2
 obtain ⟨fn, f1, f2, f3, f4, _⟩ := hF.fn
 have hl := gG hv
 refine (callsIn_wide (n := 10)).1 (callsIn_of_wp_marks (F := Fence.wide) f1 f2 trivial ?_)
 have hfr : gO η E0 (dP 0 args .nil) { tmps := vs.toArray ++ Array.replicate (fn.ntmps - vs.toArray.size) undef, defers := [] } := by
  refine kF hv (fun t sv ht => by simp [T.get_nil] at ht) (by omega) (fun j hj => ?_)
  have : j < vs.length := by omega
  simp [Array.getElem?_append, this]
 have hS : cR η E0 fi.ntmps base w0 ⟨dP 0 args .nil, hp, nx, lo, []⟩ { tmps := vs.toArray ++ Array.replicate (fn.ntmps - vs.toArray.size) undef, defers := [] } w :=
  ⟨hfr, by simp [f3, hl]; omega, hb2, hdl.symm, hH, hB, hlo, fun x hx => by cases hx⟩
 have := h 10 E0 base w0 _ w (bodyPostM Fence.wide 10 P fn R) (fun _ => Nat.le_refl _) hS hn0 ?_
 ·rw [dB] at this
  refine wpIn_mono this fun e a w he => ?_
  cases e with
  | normal => rw [dX, sJ] at he; exact he
  | _ => rw [bR (by simp), lQ] at he; exact he
 ·intro x st' E' a' w' hΦ hA hn hlo' hS'
  obtain ⟨hxx, s, hs, hΨ⟩ := hx x st' hΦ
  have hlo' : st'.lo = lo := hlo'
  obtain ⟨Ds, e1, e2, e3⟩ := hA.dl
  have hd : a'.defers = Ds.map BU := by rw [hS'.df, e1, hdl, List.append_nil]
  have key : LeavesInM (FW none) 10 P fn a'.tmps R (Ds.map BU) .returning w' := by
   refine yY hC (by rw [f4]; exact hs) Ds E' w' hS'.hr (fun D hD => (e3 D hD).1) e2 hS'.fr hS'.bl (fun v E'' w'' q1 q2 q3 q4 => hR st' s v E'' w'' hΨ q1 (by rw [← hlo']; exact q2) q3 (by rw [q4]; exact hA.z0))
  rcases hxx with rfl | rfl
  ·show LeavesInM Fence.wide 10 P fn a'.tmps R a'.defers .returning w'
   rw [hd]; exact key
  ·show LeavesInM Fence.wide 10 P fn a'.tmps R a'.defers .returning w'
   rw [hd]; exact key

/-! ## Typed arguments -/
inductive PT where
 | one (s : Sh)
 | agg (l : List Sh)
def M5 (s : Sh) (c : Sc) : Option FD :=
 match s, c with
 | .bool, .bool (.lit b) => some (.bool b)
 | .bool, .bool (.at_ false (.tm b)) => some (.bool b)
 | .bool, .bool (.at_ true (.tm b)) => some (.bool (!b))
 | .int k, .int k' x => bif decide (k = k') then (match gQ x with
  | some n => some (.int k n)
  | none => none) else none
 | .str, .str l => some (.str l)
 | .str, .ostr l => some (.str l)
 | .list cs, .fz _ (.list cs' n f) => bif shL cs cs' then some (.list cs n f) else none
 | .list cs, .slice none 0 (.known 0) => some (.list cs 0 fun _ _ => .bool false)
 | _, _ => none
theorem tR {η : Env} {E : Emb} {s : Sh} {c : Sc} {d : FD} {v : Value} (h : M5 s c = some d) (hv : c.den η E = some v) : s.ex d = d ∧ bB E.z d v := by
 unfold M5 at h
 split at h <;> first | (cases h; done) | skip
 ·cases h; cases hv; exact ⟨rfl, rfl⟩
 ·cases h; cases hv; exact ⟨rfl, by simp [bB, Bx.den, fE.den]⟩
 ·cases h; cases hv; exact ⟨rfl, by simp [bB, Bx.den, fE.den]⟩
 ·rename_i k k' x
  cases hk : decide (k = k') with
  | false => rw [hk] at h; cases h
  | true =>
   rw [hk] at h
   have := of_decide_eq_true hk
   subst this
   simp only [cond_true] at h
   split at h
   ·rename_i n hn
    cases h; cases hv
    exact ⟨rfl, by simp [bB, cH hn]⟩
   ·cases h
 ·cases h; cases hv; exact ⟨rfl, rfl⟩
 ·cases h; cases hv; exact ⟨rfl, rfl⟩
 ·rename_i cs r cs' n f
  cases hc : shL cs cs' with
  | false => rw [hc] at h; cases h
  | true =>
   rw [hc] at h; cases h
   have := EP _ _ hc
   subst this
   exact ⟨rfl, (aI.1 hv).2⟩
 ·cases h; cases hv
  exact ⟨rfl, none, 0, rfl, Nat.le_refl _, by decide, .inl rfl⟩
def ER : List Sh → List Sc → Option (List FD)
 | [], [] => some []
 | s :: l, c :: m => match M5 s c, ER l m with
  | some d, some ds => some (d :: ds)
  | _, _ => none
 | _, _ => none
def mP : List PT → List Sv → Option (List FD)
 | [], [] => some []
 | .one s :: l, .one c :: m => match M5 s c, mP l m with
  | some d, some ds => some (d :: ds)
  | _, _ => none
 | .agg cs :: l, .agg c :: m => match ER cs c, mP l m with
  | some d, some ds => some (d ++ ds)
  | _, _ => none
 | _, _ => none
/-- The arguments as the run begins with them. -/
def CT : Nat → List Sh → List FD → List Sc
 | k, s :: l, d :: ds => cS (.root 0 k) s d :: CT (k + 1) l ds
 | _, _, _ => []
def j4 : Nat → List PT → List FD → List Sv
 | k, .one s :: l, d :: ds => .one (cS (.root 0 k) s d) :: j4 (k + 1) l ds
 | k, .agg cs :: l, ds => .agg (CT k cs ds) :: j4 (k + cs.length) l (ds.drop cs.length)
 | _, _, _ => []
def cellsOf : List PT → List Value → List Value
 | .one _ :: l, v :: vs => v :: cellsOf l vs
 | .agg _ :: l, v :: vs => v.cells.toList ++ cellsOf l vs
 | _, _ => []
/-- A datum that some memory holds. -/
def K4 (d : FD) : Prop := ∃ z v, bB z d v
theorem K4.len {cs : List Sh} {n : Nat} {f : Nat → Nat → FD} (h : K4 (.list cs n f)) : n ≤ maxLen := by
 obtain ⟨z, v, a, c, _, h1, h2, _⟩ := h
 exact Nat.le_trans h1 h2
theorem K4.at {cs : List Sh} {n : Nat} {f : Nat → Nat → FD} (h : K4 (.list cs n f)) {i j : Nat} (hi : i < n) (hj : j < cs.length) : (iD cs j).ex (f i j) = f i j ∧ K4 (f i j) := by
 obtain ⟨z, v, a, c, _, _, _, h3⟩ := h
 rcases h3 with h3 | ⟨B, o, _, h3⟩
 ·omega
 ·obtain ⟨h4, u, _, h5⟩ := h3 i hi j hj
  exact ⟨h4, z, u, h5⟩
def FitL : List Sh → List FD → Prop
 | [], [] => True
 | s :: l, d :: ds => (s.ex d = d ∧ K4 d) ∧ FitL l ds
 | _, _ => False
theorem FitL.nil {ds : List FD} (h : FitL [] ds) : ds = [] := by
 cases ds with
 | nil => rfl
 | cons d ds => exact h.elim
theorem FitL.int {k : IntKind} {l : List Sh} {fds : List FD} (h : FitL (.int k :: l) fds) : ∃ n ds, fds = .int k n :: ds ∧ FitL l ds := by
 cases fds with
 | nil => exact h.elim
 | cons d ds => exact ⟨d.i, ds, by rw [show FD.int k d.i = d from h.1.1], h.2⟩
theorem FitL.bool {l : List Sh} {fds : List FD} (h : FitL (.bool :: l) fds) : ∃ b ds, fds = .bool b :: ds ∧ FitL l ds := by
 cases fds with
 | nil => exact h.elim
 | cons d ds => exact ⟨d.b, ds, by rw [show FD.bool d.b = d from h.1.1], h.2⟩
theorem FitL.str {l : List Sh} {fds : List FD} (h : FitL (.str :: l) fds) : ∃ b ds, fds = .str b :: ds ∧ FitL l ds := by
 cases fds with
 | nil => exact h.elim
 | cons d ds => exact ⟨d.s, ds, by rw [show FD.str d.s = d from h.1.1], h.2⟩
theorem FitL.list {cs : List Sh} {l : List Sh} {fds : List FD} (h : FitL (.list cs :: l) fds) : ∃ n f ds, fds = .list cs n f :: ds ∧ K4 (.list cs n f) ∧ FitL l ds := by
 cases fds with
 | nil => exact h.elim
 | cons d ds =>
  have e : FD.list cs d.ln d.fn = d := h.1.1
  exact ⟨d.ln, d.fn, ds, by rw [e], by rw [e]; exact h.1.2, h.2⟩
def sigS : List PT → List Sh
 | [] => []
 | .one s :: l => s :: sigS l
 | .agg cs :: l => cs ++ sigS l
theorem FitL.append : ∀ {l m : List Sh} {a b : List FD}, FitL l a → FitL m b → FitL (l ++ m) (a ++ b)
 | [], _, [], _, _, h => h
 | s :: l, m, d :: a, b, h, h' => ⟨h.1, FitL.append h.2 h'⟩
 | [], _, _ :: _, _, h, _ => h.elim
 | _ :: _, _, [], _, h, _ => h.elim
theorem HW {η : Env} {E E0 : Emb} (hz : E0.z = E.z) : ∀ {l : List Sh} {m : List Sc} {ds ds' : List FD} {vs : List Value} {k : Nat}, ER l m = some ds → aL η E m = some vs → (∀ i v, vs[i]? = some v → E0.r 0 (k + i) = some v) →
  aL η E0 (CT k l (ds ++ ds')) = some vs ∧ FitL l ds ∧ ds.length = l.length
 | [], [], ds, ds', vs, k, h, hv, _ => by cases h; cases hv; exact ⟨rfl, trivial, rfl⟩
 | s :: l, c :: m, ds, ds', vs, k, h, hv, hr => by
  simp only [ER] at h
  split at h
  ·rename_i d ds1 h1 h2
   cases h
   obtain ⟨v, us, e1, e2, rfl⟩ := aP hv
   obtain ⟨g1, g2⟩ := tR h1 e1
   obtain ⟨q1, q2, q3⟩ := HW hz (ds' := ds') (k := k + 1) h2 e2 (fun i u hi => by have := hr (i + 1) u (by simpa using hi); rwa [show k + 1 + i = k + (i + 1) by omega])
   refine ⟨?_, ⟨⟨g1, _, _, g2⟩, q2⟩, by simp [q3]⟩
   show aL η E0 (cS (.root 0 k) s d :: CT (k + 1) l (ds1 ++ ds')) = _
   have := lL (η := η) (E := E0) (r := .root 0 k) g1 (by rw [hz]; exact g2) (hr 0 v rfl)
   simp only [aL, this, q1]
  ·cases h
 | [], _ :: _, _, _, _, _, h, _, _ => by cases h
 | _ :: _, [], _, _, _, _, h, _, _ => by cases h
theorem kP {η : Env} {E E0 : Emb} (hz : E0.z = E.z) : ∀ {l : List PT} {m : List Sv} {ds : List FD} {vs : List Value} {k : Nat}, mP l m = some ds → aB η E m = some vs → (∀ i v, (cellsOf l vs)[i]? = some v → E0.r 0 (k + i) = some v) →
  aB η E0 (j4 k l ds) = some vs ∧ FitL (sigS l) ds
 | [], [], ds, vs, k, h, hv, _ => by cases h; cases hv; exact ⟨rfl, trivial⟩
 | .one s :: l, .one c :: m, ds, vs, k, h, hv, hr => by
  simp only [mP] at h
  split at h
  ·rename_i d ds1 h1 h2
   cases h
   obtain ⟨v, us, e1, e2, rfl⟩ := aG hv
   obtain ⟨g1, g2⟩ := tR h1 e1
   obtain ⟨q1, q2⟩ := kP hz (k := k + 1) h2 e2 (fun i u hi => by have := hr (i + 1) u (by simpa [cellsOf] using hi); rwa [show k + 1 + i = k + (i + 1) by omega])
   refine ⟨?_, ⟨⟨g1, _, _, g2⟩, q2⟩⟩
   have := lL (η := η) (E := E0) (r := .root 0 k) g1 (by rw [hz]; exact g2) (hr 0 v (by simp [cellsOf]))
   simp only [j4, aB, Sv.den, this, q1]
  ·cases h
 | .agg cs :: l, .agg c :: m, ds, vs, k, h, hv, hr => by
  simp only [mP] at h
  split at h
  ·rename_i d ds1 h1 h2
   cases h
   obtain ⟨v, us, e1, e2, rfl⟩ := aG hv
   obtain ⟨ws, g1, rfl⟩ := fO e1
   have hwl := aY g1
   obtain ⟨p1, p2, p3⟩ := HW hz (ds' := ds1) (k := k) h1 g1 (fun i u hi => hr i u (by
    simp only [cellsOf, Value.cells]
    rw [List.getElem?_append_left (by simpa using (List.getElem?_eq_some_iff.1 hi).1)]; exact hi))
   have hcl : c.length = cs.length := by
    have : ∀ {l : List Sh} {m : List Sc} {ds : List FD}, ER l m = some ds → m.length = l.length := by
     intro l
     induction l with
     | nil => intro m ds h; cases m with
      | nil => rfl
      | cons _ _ => cases h
     | cons s l ih =>
      intro m ds h
      cases m with
      | nil => cases h
      | cons c m =>
       simp only [ER] at h
       split at h
       ·rename_i h2; simp [ih h2]
       ·cases h
    exact this h1
   obtain ⟨q1, q2⟩ := kP hz (k := k + cs.length) h2 e2 (fun i u hi => by
    have := hr (cs.length + i) u (by
     simp only [cellsOf, Value.cells]
     rw [List.getElem?_append_right (by simp [hwl, hcl])]
     simpa [hwl, hcl] using hi)
    rwa [show k + cs.length + i = k + (cs.length + i) by omega])
   refine ⟨?_, FitL.append p2 q2⟩
   have hdrop : (d ++ ds1).drop cs.length = ds1 := by rw [← p3]; simp
   simp only [j4, aB, Sv.den, p1, hdrop, q1, Option.map_some]
  ·cases h
 | [], _ :: _, _, _, _, h, _, _ => by cases h
 | .one _ :: _, [], _, _, _, h, _, _ => by cases h
 | .agg _ :: _, [], _, _, _, h, _, _ => by cases h
 | .one _ :: _, .agg _ :: _, _, _, _, h, _, _ => by cases h
 | .one _ :: _, .tup _ :: _, _, _, _, h, _, _ => by cases h
 | .one _ :: _, .undef :: _, _, _, _, h, _, _ => by cases h
 | .agg _ :: _, .one _ :: _, _, _, _, h, _, _ => by cases h
 | .agg _ :: _, .tup _ :: _, _, _, _, h, _, _ => by cases h
 | .agg _ :: _, .undef :: _, _, _, _, h, _, _ => by cases h

end
end Go.Ex

