/-
 Typed results; contracts of functions on typed data.
-/
import Derived.Test.YtdpabnfcfakjeaaExS3
import Derived.Test.YtdpabnfcfakjeaaEx18

namespace Go.Ex
open Go Go.RowKit
noncomputable section

inductive RT where
 | one (s : Sh)
 | agg (l : List Sh)
 | tup (l : List PT)
/-- The cells k .. of a result. -/
def nY (fds : List FD) : Nat → List Sh → List Sc
 | _, [] => []
 | k, s :: l => cS (.root 0 k) s (dG fds k) :: nY fds (k + 1) l
def kQ (fds : List FD) : Nat → List PT → List (Bool × List Sc)
 | _, [] => []
 | k, .one s :: l => (false, [cS (.root 0 k) s (dG fds k)]) :: kQ fds (k + 1) l
 | k, .agg cs :: l => (true, nY fds k cs) :: kQ fds (k + cs.length) l
def lP (rt : RT) (fds : List FD) : Sv :=
 match rt with
 | .one s => .one (cS (.root 0 0) s (dG fds 0))
 | .agg l => .agg (nY fds 0 l)
 | .tup l => .tup (kQ fds 0 l)

/-- What a run ends with is the datum. -/
def yZ (hp : T Blk) (s : Sh) (c : Sc) (d : FD) : Prop :=
 match s, c with
 | .bool, .bool (.lit b) => d.b = b
 | .bool, .bool (.at_ false (.tm b)) => d.b = b
 | .bool, .bool (.at_ true (.tm b)) => d.b = !b
 | .int k, .int k' (.lit n) => k = k' ∧ d.i = n
 | .int k, .int k' (.tm n) => k = k' ∧ d.i = n
 | .str, .str l => d.s = l
 | .str, .ostr l => d.s = l
 | .list _, .slice none 0 (.known 0) => d.ln = 0
 | .list _, .slice (some (b, 0)) 0 (.rest 0) => d.ln = 0 ∧ match hp.get b with
  | some (.cells _ _ _) => True
  | _ => False
 | .list cs, .own b n => 1 ≤ b ∧ match hp.get b with
  | some (.row _ cs' n' f) => cs' = cs ∧ n' = n ∧ d.ln = n ∧ ∀ i, i < n → ∀ j, j < cs.length → d.fn i j = f i j
  | some (.mat q _ s n' x m f) => ((cs = [.list [s]] ∧ 1 ≤ q) ∧ n' = n ∧ x = n) ∧ d.ln = n ∧ ∀ i, i < n → (Sh.list [s]).ex (d.fn i 0) = d.fn i 0 ∧ (d.fn i 0).ln = m ∧ ∀ k, k < m → (d.fn i 0).fn k 0 = f i k
  | _ => False
 | .list cs, .fz (.root k _) (.list cs' n f) => 1 ≤ k ∧ cs' = cs ∧ d.ln = n ∧ ∀ i, i < n → ∀ j, j < cs.length → d.fn i j = f i j
 | _, _ => False
def QS (hp : T Blk) (fds : List FD) : Nat → List Sh → List Sc → Prop
 | _, [], [] => True
 | k, s :: l, c :: m => yZ hp s c (dG fds k) ∧ QS hp fds (k + 1) l m
 | _, _, _ => False
def HX (hp : T Blk) (fds : List FD) : Nat → List PT → List (Bool × List Sc) → Prop
 | _, [], [] => True
 | k, .one s :: l, (false, [c]) :: m => yZ hp s c (dG fds k) ∧ HX hp fds (k + 1) l m
 | k, .agg cs :: l, (true, m) :: r => QS hp fds k cs m ∧ HX hp fds (k + cs.length) l r
 | _, _, _ => False
def ES (hp : T Blk) (rt : RT) (fds : List FD) (s : Sv) : Prop :=
 match rt, s with
 | .one sh, .one c => yZ hp sh c (dG fds 0)
 | .agg l, .agg m => QS hp fds 0 l m
 | .tup l, .tup m => HX hp fds 0 l m
 | _, _ => False

theorem eX {b : Nat} {v : Value} (h : ∀ a n c, v ≠ .slice a n c) : nO b v := fun a n c e => absurd e (h _ _ _)
theorem tS (n k : Nat) (s : Sh) (d : FD) : kD n (cS (.root 0 k) s d) = cS (.root n k) s d := by
 cases s <;> rfl
theorem tT {η : Env} {E EA : Emb} {hp : T Blk} {nx lo base : Nat} {w : World} (hH : aD η E hp nx lo base w) (hlo : lo ≤ 1) (hz : ∀ B o u, E.z B o = some u → EA.z B o = some u) (hw : ∀ B o u, base ≤ B → w.cell? ⟨B, o, none⟩ = some u → EA.z B o = some u)
  {s : Sh} {c : Sc} {d : FD} {u : Value} {n k : Nat} (h : yZ hp s c d) (hu : c.den η E = some u) (hr : EA.r n k = some u) : (cS (.root n k) s d).den η EA = some u ∧ nO base u := by
 unfold yZ at h
 split at h <;> first | (cases h; done) | skip
 ·cases hu; exact ⟨by simp only [cS, Sc.den, dM, h]; rfl, eX (by simp)⟩
 ·rename_i b; cases hu; exact ⟨by simp only [cS, Sc.den, dM, h]; simp [Bx.den, fE.den], eX (by simp)⟩
 ·rename_i b; cases hu; exact ⟨by simp only [cS, Sc.den, dM, h]; simp [Bx.den, fE.den], eX (by simp)⟩
 ·cases hu; obtain ⟨rfl, h⟩ := h; exact ⟨by simp [cS, Sc.den, Ix.den, h], eX (by simp)⟩
 ·cases hu; obtain ⟨rfl, h⟩ := h; exact ⟨by simp [cS, Sc.den, Ix.den, h], eX (by simp)⟩
 ·cases hu; exact ⟨by simp [cS, Sc.den, h], eX (by simp)⟩
 ·cases hu; exact ⟨by simp [cS, Sc.den, h], eX (by simp)⟩
 ·cases hu
  refine ⟨aI.2 ⟨hr, ?_⟩, fun a n c e _ => by cases e⟩
  rw [h]
  exact ⟨none, 0, rfl, Nat.le_refl _, by decide, .inl rfl⟩
 ·rename_i b
  obtain ⟨h0, h⟩ := h
  split at h
  ·rename_i e sz l hb
   simp only [Sc.den] at hu
   split at hu
   ·rename_i X hB
    split at hu
    ·cases hu
     obtain ⟨B', K', hE', c, vs, rest, h1, h2, h3, _⟩ := hH.cell b _ hb
     rw [hB] at hE'; cases hE'
     refine ⟨aI.2 ⟨hr, _, _, by rw [h0], by omega, by simp only; omega, .inl h0⟩, fun a n c e hn => by cases e; omega⟩
    ·cases hu
   ·cases hu
  ·cases h
 ·rename_i cs b m
  obtain ⟨hb1, h⟩ := h
  split at h
  ·rename_i e cs' n' f hb
   obtain ⟨rfl, rfl, hln, hf⟩ := h
   obtain ⟨B, K, hE, rfl, hnK⟩ := hU (η := η) (b := b) (n := n') hu
   have hB := hH.hi b B K (by omega) hE
   obtain ⟨B', K', hE', c, h1, h2, h3, h4, h5, h6⟩ := hH.cell b _ hb
   rw [hE] at hE'; cases hE'
   refine ⟨aI.2 ⟨hr, _, _, by rw [hln], by rw [hln]; exact h3, h4, .inr ⟨B, 0, rfl, fun i hi j hj => ?_⟩⟩, fun a n c e _ => by cases e; exact hB⟩
   rw [hln] at hi
   obtain ⟨k1, x, k2, k3⟩ := h6 i hi j hj
   rw [hf i hi j hj]
   refine ⟨k1, x, hw _ _ _ hB ?_, k3.mono hz⟩
   rw [Nat.zero_add, cell_of_row w B _ c e (0, 0) h1, k2]
  ·rename_i q e s n' x m' f hb
   obtain ⟨⟨⟨rfl, hq⟩, rfl, rfl⟩, hln, hf⟩ := h
   obtain ⟨B, K, hE, rfl, hnK⟩ := hU (η := η) (b := b) (n := x) hu
   have hB := hH.hi b B K (by omega) hE
   obtain ⟨B', K', hE', c0, h0, _, _, h4⟩ := hH.cell b _ hb
   rw [hE] at hE'; cases hE'
   obtain ⟨B', K', c, hE', h1, h2, h3, _⟩ := hH.mt.row _ _ _ _ _ _ _ _ hb
   rw [hE] at hE'; cases hE'
   refine ⟨aI.2 ⟨hr, _, _, by rw [hln], by rw [hln]; exact hnK, h4, .inr ⟨B, 0, rfl, fun i hi j hj => ?_⟩⟩, fun a n c e _ => by cases e; exact hB⟩
   rw [hln] at hi
   have hj0 : j = 0 := by simp at hj; exact hj
   subst hj0
   obtain ⟨r1, r2, r3⟩ := hf i hi
   obtain ⟨C, L, k1, k2, c2, e2, k3, k4, k5, k6, k7⟩ := h3 i hi
   refine ⟨r1, _, hw _ _ _ hB (by rw [cell_of_row w B _ c e (0, 0) h1]; simpa using k2), ?_⟩
   rw [← r1]
   show ∃ a c, _ = Value.slice a (d.fn i 0).ln c ∧ _
   rw [r2]
   have hC := hH.mt.hi _ _ _ _ (show lo ≤ q by omega) k1
   refine ⟨_, _, rfl, k5, k6, .inr ⟨C, 0, rfl, fun k hk j' hj' => ?_⟩⟩
   have hj0 : j' = 0 := by simp at hj'; exact hj'
   subst hj0
   obtain ⟨p1, u, p2, p3⟩ := k7 k hk
   rw [r3 k hk]
   refine ⟨p1, u, hw _ _ _ hC (by rw [cell_of_row w C _ c2 e2 (0, 0) k3]; simpa using p2), p3.mono hz⟩
  ·cases h
 ·rename_i cs r j cs' m f
  obtain ⟨hr1, rfl, hln, hf⟩ := h
  obtain ⟨q1, a, c, rfl, q2, q3, q4⟩ := aI.1 hu
  refine ⟨aI.2 ⟨hr, a, c, by rw [hln], by rw [hln]; exact q2, q3, ?_⟩, hH.rn.1 r j _ (by omega) q1⟩
  rw [hln]
  rcases q4 with q4 | ⟨B, o, ea, q4⟩
  ·exact .inl q4
  ·refine .inr ⟨B, o, ea, fun i hi j hj => ?_⟩
   obtain ⟨k1, x, k2, k3⟩ := q4 i hi j hj
   rw [hf i hi j hj]
   exact ⟨k1, x, hz _ _ _ k2, k3.mono hz⟩

theorem zA {η : Env} {E EA : Emb} {hp : T Blk} {nx lo base : Nat} {w : World} (hH : aD η E hp nx lo base w) (hlo : lo ≤ 1) (hz : ∀ B o u, E.z B o = some u → EA.z B o = some u) (hw : ∀ B o u, base ≤ B → w.cell? ⟨B, o, none⟩ = some u → EA.z B o = some u)
  {fds : List FD} {n : Nat} : ∀ {l : List Sh} {m : List Sc} {vs : List Value} {k : Nat}, QS hp fds k l m → aL η E m = some vs → (∀ i u, vs[i]? = some u → EA.r n (k + i) = some u) →
  aL η EA ((nY fds k l).map (kD n)) = some vs ∧ (∀ u ∈ vs, nO base u) ∧ vs.length = l.length
 | [], [], vs, k, _, hv, _ => by cases hv; exact ⟨rfl, (fun _ h => by cases h), rfl⟩
 | s :: l, c :: m, vs, k, h, hv, hr => by
  obtain ⟨v, us, e1, e2, rfl⟩ := aP hv
  obtain ⟨q1, q2⟩ := tT hH hlo hz hw h.1 e1 (hr 0 v rfl)
  obtain ⟨p1, p2, p3⟩ := zA hH hlo hz hw (k := k + 1) h.2 e2 (fun i u hi => by have := hr (i + 1) u (by simpa using hi); rwa [show k + 1 + i = k + (i + 1) by omega])
  refine ⟨?_, fun u hu => ?_, by simp [p3]⟩
  ·simp only [nY, List.map_cons, tS, aL]
   rw [show k + 0 = k by omega] at q1
   rw [q1, p1]
  ·rcases List.mem_cons.1 hu with rfl | hu
   ·exact q2
   ·exact p2 u hu
 | [], _ :: _, _, _, h, _, _ => h.elim
 | _ :: _, [], _, _, h, _, _ => h.elim
/-- The cells of a result. -/
def mQ : List (Bool × List Sc) → List Value → List Value
 | (false, _) :: l, v :: vs => v :: mQ l vs
 | (true, _) :: l, v :: vs => v.cells.toList ++ mQ l vs
 | _, _ => []
def j5 : Sv → Value → List Value
 | .one _, v => [v]
 | .agg _, v => v.cells.toList
 | .tup l, .tuple vs => mQ l vs.toList
 | _, _ => []
theorem iA {η : Env} {E : Emb} {p : Bool × List Sc} {l : List (Bool × List Sc)} {vs : List Value} (h : aN η E (p :: l) = some vs) : ∃ v us, bP η E p = some v ∧ aN η E l = some us ∧ vs = v :: us := by
 simp only [aN] at h
 split at h
 ·rename_i v us h1 h2
  cases h
  exact ⟨v, us, h1, h2, rfl⟩
 ·cases h
theorem tU {η : Env} {E EA : Emb} {hp : T Blk} {nx lo base : Nat} {w : World} (hH : aD η E hp nx lo base w) (hlo : lo ≤ 1) (hz : ∀ B o u, E.z B o = some u → EA.z B o = some u) (hw : ∀ B o u, base ≤ B → w.cell? ⟨B, o, none⟩ = some u → EA.z B o = some u)
  {fds : List FD} {n : Nat} : ∀ {l : List PT} {m : List (Bool × List Sc)} {vs : List Value} {k : Nat}, HX hp fds k l m → aN η E m = some vs → (∀ i u, (mQ m vs)[i]? = some u → EA.r n (k + i) = some u) →
  aN η EA ((kQ fds k l).map fun p => (p.1, p.2.map (kD n))) = some vs ∧ ∀ u ∈ mQ m vs, nO base u
 | [], [], vs, k, _, hv, _ => by cases hv; exact ⟨rfl, (fun _ h => by cases h)⟩
 | .one s :: l, (false, [c]) :: m, vs, k, h, hv, hr => by
  obtain ⟨v, us, e1, e2, rfl⟩ := iA hv
  obtain ⟨q1, q2⟩ := tT hH hlo hz hw h.1 e1 (hr 0 v (by simp [mQ]))
  obtain ⟨p1, p2⟩ := tU hH hlo hz hw (k := k + 1) h.2 e2 (fun i u hi => by have := hr (i + 1) u (by simpa [mQ] using hi); rwa [show k + 1 + i = k + (i + 1) by omega])
  refine ⟨?_, fun u hu => ?_⟩
  ·simp only [kQ, List.map_cons, List.map_nil, tS, aN, bP]
   rw [show k + 0 = k by omega] at q1
   rw [q1, p1]
  ·rcases List.mem_cons.1 hu with rfl | hu
   ·exact q2
   ·exact p2 u hu
 | .agg cs :: l, (true, c) :: m, vs, k, h, hv, hr => by
  obtain ⟨v, us, e1, e2, rfl⟩ := iA hv
  have e1' : (Sv.agg c).den η E = some v := e1
  obtain ⟨ws, g1, rfl⟩ := fO e1'
  obtain ⟨q1, q2, q3⟩ := zA hH hlo hz hw h.1 g1 (fun i u hi => hr i u (by
   simp only [mQ, Value.cells]
   rw [List.getElem?_append_left (by simpa using (List.getElem?_eq_some_iff.1 hi).1)]; exact hi))
  obtain ⟨p1, p2⟩ := tU hH hlo hz hw (k := k + cs.length) h.2 e2 (fun i u hi => by
   have := hr (cs.length + i) u (by
    simp only [mQ, Value.cells]
    rw [List.getElem?_append_right (by simp [q3])]
    simpa [q3] using hi)
   rwa [show k + cs.length + i = k + (cs.length + i) by omega])
  refine ⟨?_, fun u hu => ?_⟩
  ·simp only [kQ, List.map_cons, aN, bP, q1, p1, Option.map_some]
  ·rcases List.mem_append.1 hu with hu | hu
   ·exact q2 u (by simpa [Value.cells] using hu)
   ·exact p2 u hu
 | [], _ :: _, _, _, h, _, _ => h.elim
 | .one _ :: _, [], _, _, h, _, _ => h.elim
 | .agg _ :: _, [], _, _, h, _, _ => h.elim
 | .one _ :: _, (true, _) :: _, _, _, h, _, _ => h.elim
 | .one _ :: _, (false, []) :: _, _, _, h, _, _ => h.elim
 | .one _ :: _, (false, _ :: _ :: _) :: _, _, _, h, _, _ => h.elim
 | .agg _ :: _, (false, []) :: _, _, _, h, _, _ => h.elim
 | .agg _ :: _, (false, _ :: _) :: _, _, _, h, _, _ => h.elim
theorem HY {η : Env} {E EA : Emb} {hp : T Blk} {nx lo base : Nat} {w : World} (hH : aD η E hp nx lo base w) (hlo : lo ≤ 1) (hz : ∀ B o u, E.z B o = some u → EA.z B o = some u) (hw : ∀ B o u, base ≤ B → w.cell? ⟨B, o, none⟩ = some u → EA.z B o = some u)
  {fds : List FD} {n : Nat} {rt : RT} {s : Sv} {v : Value} (h : ES hp rt fds s) (hv : s.den η E = some v) (hr : ∀ i u, (j5 s v)[i]? = some u → EA.r n i = some u) :
  (jA n (lP rt fds)).den η EA = some v ∧ ∀ u ∈ j5 s v, nO base u := by
 cases rt with
 | one sh =>
  cases s with
  | one c =>
   obtain ⟨q1, q2⟩ := tT (k := 0) hH hlo hz hw h hv (hr 0 v rfl)
   refine ⟨?_, fun u hu => by simp [j5] at hu; subst hu; exact q2⟩
   simp only [lP, jA, tS, Sv.den]
   exact q1
  | _ => exact h.elim
 | agg l =>
  cases s with
  | agg m =>
   obtain ⟨ws, g1, rfl⟩ := fO hv
   obtain ⟨q1, q2, _⟩ := zA (k := 0) hH hlo hz hw h g1 (fun i u hi => by rw [Nat.zero_add]; exact hr i u (by simpa [j5, Value.cells] using hi))
   refine ⟨?_, fun u hu => q2 u (by simpa [j5, Value.cells] using hu)⟩
   simp only [lP, jA, Sv.den, q1, Option.map_some]
  | _ => exact h.elim
 | tup l =>
  cases s with
  | tup m =>
   simp only [Sv.den, Option.map_eq_some_iff] at hv
   obtain ⟨ws, g1, rfl⟩ := hv
   obtain ⟨q1, q2⟩ := tU (k := 0) hH hlo hz hw h g1 (fun i u hi => by rw [Nat.zero_add]; exact hr i u (by simpa [j5] using hi))
   refine ⟨?_, fun u hu => q2 u (by simpa [j5] using hu)⟩
   simp only [lP, jA, Sv.den, q1, Option.map_some]
  | _ => exact h.elim

/-! ## Contracts -/
/-- The state that a function's run begins with. -/
def M6 (sig : List PT) (fds : List FD) : St := ⟨dP 0 (j4 0 sig fds) .nil, .nil, 1, 1, []⟩
def ET (E : Emb) (vs : List Value) : Emb := ⟨fun _ => none, fun k j => if k = 0 then vs[j]? else none, E.z, fun _ => none, ⟨[], E.z⟩, fun _ _ => none⟩
theorem zB {η : Env} {E : Emb} {w : World} (hz : ZW E w) (vs : List Value) : aD η (ET E vs) .nil 1 1 w.heap.size w :=
 ⟨(fun i b h => by simp [T.get_nil] at h), (fun i b h => by simp [T.get_nil] at h), (fun i j b c B C K L _ h => by simp [T.get_nil] at h), (fun i B K _ h => by cases h), (fun i B K h => by cases h), Nat.le_refl _, (fun i _ => rfl), by decide, hz, (fun i b B K h => by simp [T.get_nil] at h),
  (fun k hk j => by show (if k = 0 then _ else none) = none; rw [if_neg (by omega)]), (fun D o h => by cases h), ⟨(fun k j v hk h => by
   have h : (if k = 0 then vs[j]? else none) = some v := h
   rw [if_neg (by omega)] at h; cases h), (fun _ _ _ _ h => h)⟩, tI.empty (fun _ _ => rfl) (fun b q e s n x m f h => by simp [T.get_nil] at h)⟩

/-- Where a run must end: with the data F fds. -/
def OW (C : Cx) (fi : FI) (rt : RT) (r : List FD) : Xt → St → Prop := fun x st' => match x with
 | .exit _ => False
 | _ => match rT C st'.hp st'.tm fi.res with
  | some s => ES st'.hp rt r s
  | none => False
theorem OW.out {C : Cx} {fi : FI} {rt : RT} {r : List FD} {x : Xt} {st' : St} (h : OW C fi rt r x st') : (x = .normal ∨ x = .ret) ∧ ∃ s, rT C st'.hp st'.tm fi.res = some s ∧ ES st'.hp rt r s := by
 have key : (match rT C st'.hp st'.tm fi.res with
  | some s => ES st'.hp rt r s
  | none => False) → ∃ s, rT C st'.hp st'.tm fi.res = some s ∧ ES st'.hp rt r s := by
  intro h
  split at h
  ·rename_i s hs; exact ⟨s, hs, h⟩
  ·exact h.elim
 cases x with
 | exit i => exact h.elim
 | normal => exact ⟨.inl rfl, key h⟩
 | ret => exact ⟨.inr rfl, key h⟩
/-- The function runs as F says. -/
def dA (C : Cx) (P : Program) (η : Env) (f : FuncId) (fi : FI) (sig : List PT) (rt : RT) (ck : List FD → Bool) (F : List FD → List FD) : Prop :=
 FI.Ok P f fi ∧ ∀ fds, FitL (sigS sig) fds → ck fds = true → ((Nat.ble (j4 0 sig fds).length fi.ntmps && Nat.ble fi.ntmps 60000) = true ∧ dL P η fi.ntmps 0 none (M6 sig fds) [.code fi.body] (OW C fi rt (F fds)))

def gFd (sig : List PT) (rt : RT) (ck : List FD → Bool) (F : List FD → List FD) : List Sv → PC → aA (Sv × PC) := fun svs pc =>
 match mP sig svs with
 | some fds => chk (ck fds) (.leaf (lP rt (F fds), pc))
 | none => .fail

theorem M7 {C : Cx} {P : Program} {η : Env} (hC : C.Ok P η) {f : FuncId} {fi : FI} {sig : List PT} {rt : RT} {ck : List FD → Bool} {F : List FD → List FD} (h : dA C P η f fi sig rt ck F) :
  ∀ svs pc r pc', (gFd sig rt ck F svs pc).at_ η = some (r, pc') → (∃ fds, r = lP rt fds) ∧ pc' = pc ∧ ∀ E args w, ZW E w → aB η E svs = some args → ∀ n, Calls P f args.toArray w fun e w' => ∃ v rr, e = .returned v ∧ Below w.heap.size w w' ∧ (∀ j u, rr j = some u → nO w.heap.size u) ∧ (jA n r).den η (Go.Ex.addE E w w' rr n) = some v := by
 intro svs pc r pc' hg
 unfold gFd at hg
 split at hg
 ·rename_i fds hfds
  obtain ⟨hck, hg⟩ := fF hg
  cases hg
  refine ⟨⟨_, rfl⟩, rfl, fun E args w hz hv n => ?_⟩
  obtain ⟨q1, q2⟩ := kP (η := η) (E := E) (E0 := ET E (cellsOf sig args)) rfl (k := 0) hfds hv (fun i v hi => by rw [Nat.zero_add]; exact hi)
  obtain ⟨k1, k2⟩ := h.2 fds q2 hck
  refine KZ hC h.1 (n0 := 0) (nx := 1) (lo := 1) (Nat.zero_le _) (Nat.le_refl _) k2 k1 (zB hz _) (Below.refl _ _) q1 rfl (Ψ := fun st' s => ES st'.hp rt (F fds) s) (fun x st' hx => hx.out) ?_
  intro st' s v E' w' he hd hH hB hz0
  have hEA : ∀ B o u, E'.z B o = some u → (Go.Ex.addE E w w' (fun j => (j5 s v)[j]?) n).z B o = some u := fun B o u hu => by
   simp only [Go.Ex.addE]
   split
   ·exact hH.zw B o u hu
   ·have := hH.rn.2 B o u (by omega) hu
    rw [hz0] at this
    exact this
  obtain ⟨e1, e2⟩ := HY (EA := Go.Ex.addE E w w' (fun j => (j5 s v)[j]?) n) (n := n) hH (Nat.le_refl _) hEA (fun B o u hb hu => by simp only [Go.Ex.addE, if_pos hb]; exact hu) he hd (fun i u hi => by simp only [Go.Ex.addE, if_true]; exact hi)
  exact ⟨v, fun j => (j5 s v)[j]?, rfl, hB, fun j u hu => e2 u (List.mem_of_getElem? hu), e1⟩
 ·cases hg
theorem WI {C : Cx} {P : Program} {η : Env} (hC : C.Ok P η) {f : FuncId} {fi : FI} {sig : List PT} {rt : RT} {ck : List FD → Bool} {F : List FD → List FD} (h : dA C P η f fi sig rt ck F) :
  ∀ svs pc r pc', (gFd sig rt ck F svs pc).at_ η = some (r, pc') → pc.holds η → pc'.holds η ∧ ∀ E args w, ZW E w → aB η E svs = some args → UY P η E f args.toArray w r := by
 intro svs pc r pc' hg hpc
 obtain ⟨_, rfl, h2⟩ := M7 hC h svs pc r pc' hg
 exact ⟨hpc, fun E args w hz hv => ⟨cA h.1 _ w, fun n _ => h2 E args w hz hv n⟩⟩

/-! ## Results without slices -/
def Sh.scal : Sh → Bool
 | .list _ => false
 | _ => true
def PT.scal : PT → Bool
 | .one s => s.scal
 | .agg l => l.all Sh.scal
def RT.scal : RT → Bool
 | .one s => s.scal
 | .agg l => l.all Sh.scal
 | .tup l => l.all PT.scal
theorem tV {s : Sh} (h : s.scal = true) (n k : Nat) (d : FD) : kD n (cS (.root 0 k) s d) = cS (.root 0 k) s d ∧ f0 0 (cS (.root 0 k) s d) = true := by
 cases s with
 | list cs => cases h
 | _ => exact ⟨rfl, rfl⟩
theorem qK {fds : List FD} (n : Nat) : ∀ {l : List Sh} {k : Nat}, l.all Sh.scal = true → (nY fds k l).map (kD n) = nY fds k l ∧ (nY fds k l).all (f0 0) = true
 | [], _, _ => ⟨rfl, rfl⟩
 | s :: l, k, h => by
  simp only [List.all_cons, Bool.and_eq_true] at h
  obtain ⟨q1, q2⟩ := tV h.1 n k (dG fds k)
  obtain ⟨p1, p2⟩ := qK (fds := fds) n (k := k + 1) h.2
  simp only [nY, List.map_cons, q1, p1, List.all_cons, q2, p2, Bool.and_self, and_self]
theorem qL {fds : List FD} (n : Nat) : ∀ {l : List PT} {k : Nat}, l.all PT.scal = true → ((kQ fds k l).map fun p => (p.1, p.2.map (kD n))) = kQ fds k l ∧ ((kQ fds k l).all fun p => p.2.all (f0 0)) = true
 | [], _, _ => ⟨rfl, rfl⟩
 | .one s :: l, k, h => by
  simp only [List.all_cons, Bool.and_eq_true] at h
  obtain ⟨q1, q2⟩ := tV (s := s) h.1 n k (dG fds k)
  obtain ⟨p1, p2⟩ := qL (fds := fds) n (k := k + 1) h.2
  simp only [kQ, List.map_cons, List.map_nil, q1, p1, List.all_cons, List.all_nil, q2, p2, Bool.and_self, and_self]
 | .agg cs :: l, k, h => by
  simp only [List.all_cons, Bool.and_eq_true] at h
  obtain ⟨q1, q2⟩ := qK (fds := fds) n (l := cs) (k := k) h.1
  obtain ⟨p1, p2⟩ := qL (fds := fds) n (k := k + cs.length) h.2
  simp only [kQ, List.map_cons, q1, p1, List.all_cons, q2, p2, Bool.and_self, and_self]
theorem OX {fds : List FD} (n : Nat) {rt : RT} (h : rt.scal = true) : jA n (lP rt fds) = lP rt fds ∧ below 0 (lP rt fds) = true := by
 cases rt with
 | one s => obtain ⟨q1, q2⟩ := tV h n 0 (dG fds 0); simp only [lP, jA, q1, below, q2, and_self]
 | agg l => obtain ⟨q1, q2⟩ := qK (fds := fds) n (l := l) (k := 0) h; simp only [lP, jA, q1, below, q2, and_self]
 | tup l => obtain ⟨q1, q2⟩ := qL (fds := fds) n (l := l) (k := 0) h; simp only [lP, jA, q1, below, q2, and_self]

theorem WJ {C : Cx} {P : Program} {η : Env} (hC : C.Ok P η) {f : FuncId} {fi : FI} {sig : List PT} {rt : RT} {ck : List FD → Bool} {F : List FD → List FD} (h : dA C P η f fi sig rt ck F) (hrt : rt.scal = true) :
  ∀ svs pc r pc', (gFd sig rt ck F svs pc).at_ η = some (r, pc') → pc.holds η → pc'.holds η ∧ ∀ E args w, ZW E w → aB η E svs = some args → ∃ v, r.den η E = some v ∧ u9 P f args.toArray w v := by
 intro svs pc r pc' hg hpc
 obtain ⟨⟨fds, rfl⟩, rfl, h2⟩ := M7 hC h svs pc r pc' hg
 refine ⟨hpc, fun E args w hz hv => ?_⟩
 obtain ⟨s1, s2⟩ := OX (fds := fds) 0 hrt
 have key := h2 E args w hz hv 0
 have den : ∀ v w' rr, (jA 0 (lP rt fds)).den η (Go.Ex.addE E w w' rr 0) = some v → (lP rt fds).den η E = some v := fun v w' rr hd => by
  rw [s1] at hd
  rw [← hd]
  refine (Sv.den_agree (n := 0) (E := E) (E' := Go.Ex.addE E w w' rr 0) ⟨(fun i hi => by omega), (fun k hk => by omega), (fun B o u hu => ?_), fun _ _ h => h, rfl, fun _ _ _ => rfl⟩ s2).symm
  have hc := hz B o u hu
  have hlt : B < w.heap.size := by
   rcases Nat.lt_or_ge B w.heap.size with hlt | hge
   ·exact hlt
   ·exfalso
    unfold World.cell? at hc
    rw [Array.getElem?_eq_none (by simpa using hge)] at hc
    simp at hc
  simp only [Go.Ex.addE]
  rw [if_neg (by omega)]; exact hu
 obtain ⟨e, w', v, rr, rfl, hB, _, hd⟩ := Calls.exists key
 have hv0 := den _ _ _ hd
 refine ⟨v, hv0, .inr ⟨cA h.1 _ w, key.mono ?_⟩⟩
 rintro e w'' ⟨v', rr', rfl, hB', _, hd'⟩
 have := den _ _ _ hd'
 rw [hv0] at this
 cases this
 exact ⟨rfl, hB'⟩

end
end Go.Ex

