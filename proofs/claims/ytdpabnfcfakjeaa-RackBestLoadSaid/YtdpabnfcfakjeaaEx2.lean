/-
 The executor's memory: a trie for slots and blocks; how a frame and a heap stand to the real ones.
-/
import Derived.Test.YtdpabnfcfakjeaaEx1
import Derived.RangeFuncOwn
import Derived.Laws.AppendOwn
import Derived.Laws.OwnMore
import Derived.Laws.Cells

namespace Go.Ex
open Go Go.RowKit

/-! ## A trie keyed by numbers below 65535 -/
inductive T (α : Type) where
 | nil
 | node (l : T α) (v : Option α) (r : T α)

noncomputable def T.get {α : Type} (t : T α) : Nat → Option α :=
 T.rec (fun _ => none) (fun _ v _ ihl ihr i => bif Nat.beq i 0 then v else bif Nat.beq (i % 2) 1 then ihl (i / 2) else ihr (i / 2 - 1)) t
theorem T.get_nil {α : Type} (i : Nat) : (T.nil : T α).get i = none := rfl
theorem T.get_node {α : Type} (l r : T α) (v : Option α) (i : Nat) : (T.node l v r).get i = bif Nat.beq i 0 then v else bif Nat.beq (i % 2) 1 then l.get (i / 2) else r.get (i / 2 - 1) := rfl

noncomputable def T.put {α : Type} (n : Nat) : T α → Nat → Option α → T α :=
 Nat.rec (fun t _ _ => t) (fun _ ih t i x =>
  T.rec (bif Nat.beq i 0 then .node .nil x .nil else bif Nat.beq (i % 2) 1 then .node (ih .nil (i / 2) x) none .nil else .node .nil none (ih .nil (i / 2 - 1) x))
   (fun l v r _ _ => bif Nat.beq i 0 then .node l x r else bif Nat.beq (i % 2) 1 then .node (ih l (i / 2) x) v r else .node l v (ih r (i / 2 - 1) x)) t) n
theorem T.put_nil {α : Type} (n i : Nat) (x : Option α) : T.put (n + 1) .nil i x = bif Nat.beq i 0 then .node .nil x .nil else bif Nat.beq (i % 2) 1 then .node (T.put n .nil (i / 2) x) none .nil else .node .nil none (T.put n .nil (i / 2 - 1) x) := rfl
theorem T.put_node {α : Type} (n i : Nat) (l r : T α) (v x : Option α) : T.put (n + 1) (.node l v r) i x = bif Nat.beq i 0 then .node l x r else bif Nat.beq (i % 2) 1 then .node (T.put n l (i / 2) x) v r else .node l v (T.put n r (i / 2 - 1) x) := rfl

noncomputable def T.set {α : Type} (t : T α) (i : Nat) (x : Option α) : T α := T.put 16 t i x

theorem T.get_put_same {α : Type} : ∀ (n : Nat) (t : T α) (i : Nat) (x : Option α), i + 1 < 2 ^ n → (T.put n t i x).get i = x
 | 0, _, i, _, h => by simp at h
 | n + 1, t, i, x, h => by
  have h2 : 2 ^ (n + 1) = 2 * 2 ^ n := by rw [Nat.pow_succ]; omega
  cases t with
  | nil =>
   simp only [T.put_nil]
   cases h0 : Nat.beq i 0 with
   | true => simp [T.get_node, h0]
   | false =>
    have hi : i ≠ 0 := fun e => by subst e; simp at h0
    cases h1 : Nat.beq (i % 2) 1 with
    | true =>
     have := Nat.eq_of_beq_eq_true h1
     simp only [cond_false, cond_true, T.get_node, h0, h1]; exact T.get_put_same n _ _ _ (by omega)
    | false =>
     have : i % 2 ≠ 1 := fun e => by rw [e] at h1; simp at h1
     simp only [cond_false, T.get_node, h0, h1]; exact T.get_put_same n _ _ _ (by omega)
  | node l v r =>
   simp only [T.put_node]
   cases h0 : Nat.beq i 0 with
   | true => simp [T.get_node, h0]
   | false =>
    have hi : i ≠ 0 := fun e => by subst e; simp at h0
    cases h1 : Nat.beq (i % 2) 1 with
    | true =>
     have := Nat.eq_of_beq_eq_true h1
     simp only [cond_false, cond_true, T.get_node, h0, h1]; exact T.get_put_same n _ _ _ (by omega)
    | false =>
     have : i % 2 ≠ 1 := fun e => by rw [e] at h1; simp at h1
     simp only [cond_false, T.get_node, h0, h1]; exact T.get_put_same n _ _ _ (by omega)

theorem T.get_put_ne {α : Type} : ∀ (n : Nat) (t : T α) (i j : Nat) (x : Option α), i ≠ j → (T.put n t i x).get j = t.get j
 | 0, t, _, _, _, _ => rfl
 | n + 1, t, i, j, x, h => by
  cases t with
  | nil =>
   simp only [T.put_nil]
   cases h0 : Nat.beq i 0 with
   | true =>
    have hi : i = 0 := Nat.eq_of_beq_eq_true h0
    have hj : Nat.beq j 0 = false := by cases hb : Nat.beq j 0 with | false => rfl | true => exact absurd (hi.trans (Nat.eq_of_beq_eq_true hb).symm) h
    simp only [cond_true, T.get_node, T.get_nil, hj, cond_false]; cases Nat.beq (j % 2) 1 <;> rfl
   | false =>
    cases h1 : Nat.beq (i % 2) 1 with
    | true =>
     simp only [cond_false, cond_true, T.get_node, T.get_nil]
     cases hj : Nat.beq j 0 with
     | true => simp
     | false =>
      cases hj1 : Nat.beq (j % 2) 1 with
      | true =>
       simp only [cond_false, cond_true]
       have a1 := Nat.eq_of_beq_eq_true h1
       have a2 := Nat.eq_of_beq_eq_true hj1
       rw [T.get_put_ne n _ _ _ _ (by omega)]; rfl
      | false => simp
    | false =>
     simp only [cond_false, T.get_node, T.get_nil]
     cases hj : Nat.beq j 0 with
     | true => simp
     | false =>
      cases hj1 : Nat.beq (j % 2) 1 with
      | true => simp
      | false =>
       simp only [cond_false]
       have a1 : i % 2 ≠ 1 := fun e => by rw [e] at h1; simp at h1
       have a2 : j % 2 ≠ 1 := fun e => by rw [e] at hj1; simp at hj1
       have a3 : i ≠ 0 := fun e => by subst e; simp at h0
       have a4 : j ≠ 0 := fun e => by subst e; simp at hj
       rw [T.get_put_ne n _ _ _ _ (by omega)]; rfl
  | node l v r =>
   simp only [T.put_node]
   cases h0 : Nat.beq i 0 with
   | true =>
    have hi : i = 0 := Nat.eq_of_beq_eq_true h0
    have hj : Nat.beq j 0 = false := by cases hb : Nat.beq j 0 with | false => rfl | true => exact absurd (hi.trans (Nat.eq_of_beq_eq_true hb).symm) h
    simp only [cond_true, T.get_node, hj, cond_false]
   | false =>
    cases h1 : Nat.beq (i % 2) 1 with
    | true =>
     simp only [cond_false, cond_true, T.get_node]
     cases hj : Nat.beq j 0 with
     | true => simp
     | false =>
      cases hj1 : Nat.beq (j % 2) 1 with
      | true =>
       simp only [cond_false, cond_true]
       have a1 := Nat.eq_of_beq_eq_true h1
       have a2 := Nat.eq_of_beq_eq_true hj1
       rw [T.get_put_ne n _ _ _ _ (by omega)]
      | false => simp
    | false =>
     simp only [cond_false, T.get_node]
     cases hj : Nat.beq j 0 with
     | true => simp
     | false =>
      cases hj1 : Nat.beq (j % 2) 1 with
      | true => simp
      | false =>
       simp only [cond_false]
       have a1 : i % 2 ≠ 1 := fun e => by rw [e] at h1; simp at h1
       have a2 : j % 2 ≠ 1 := fun e => by rw [e] at hj1; simp at hj1
       have a3 : i ≠ 0 := fun e => by subst e; simp at h0
       have a4 : j ≠ 0 := fun e => by subst e; simp at hj
       rw [T.get_put_ne n _ _ _ _ (by omega)]

theorem T.get_set_same {α : Type} (t : T α) (i : Nat) (x : Option α) (h : i < 65535) : (t.set i x).get i = x := T.get_put_same 16 t i x (by omega)
theorem T.get_set_ne {α : Type} (t : T α) (i j : Nat) (x : Option α) (h : i ≠ j) : (t.set i x).get j = t.get j := T.get_put_ne 16 t i j x h

noncomputable def T.ofList {α : Type} : List (Nat × α) → T α
 | [] => .nil
 | (i, x) :: l => (T.ofList l).set i (some x)
theorem T.get_ofList {α : Type} : ∀ {l : List (Nat × α)} {i : Nat} {x : α}, (∀ p ∈ l, p.1 < 65535) → (T.ofList l).get i = some x → (i, x) ∈ l
 | [], i, x, _, h => by simp [T.ofList, T.get_nil] at h
 | (j, y) :: l, i, x, hl, h => by
  simp only [T.ofList] at h
  by_cases hij : j = i
  ·subst hij
   rw [T.get_set_same _ _ _ (hl (j, y) (List.mem_cons_self ..))] at h
   cases h; exact List.mem_cons_self ..
  ·rw [T.get_set_ne _ _ _ _ hij] at h
   exact List.mem_cons_of_mem _ (T.get_ofList (fun p hp => hl p (List.mem_cons_of_mem _ hp)) h)

/-! ## Blocks -/
def dG : List FD → Nat → FD
 | [], _ => .bool false
 | d :: _, 0 => d
 | _ :: l, j + 1 => dG l j
def fM : Sh → Bool
 | .list _ => false
 | _ => true
inductive Blk where
 | cells (e : TypeId) (sz : Nat) (l : List Sc)
 | map (ss : List Sh) (ag : Bool) (f : List UInt8 → Option (List FD))
 | arow (l : List Sc)
 | row (e : TypeId) (cs : List Sh) (n : Nat) (f : Nat → Nat → FD)
 | mat (q : Nat) (e : TypeId) (s : Sh) (n x m : Nat) (f : Nat → Nat → FD)

def AgV (ag : Bool) (v : Value) (vs : List Value) : Prop :=
 match ag with
 | true => v = .agg vs.toArray
 | false => vs = [v]
/-- A map's element is these data. -/
def TY (ss : List Sh) (ag : Bool) (ds : List FD) (v : Value) : Prop :=
 ∃ vs : List Value, AgV ag v vs ∧ vs.length = ss.length ∧ ∀ j, j < ss.length → fM (iD ss j) = true ∧ (iD ss j).ex (dG ds j) = dG ds j ∧ ∃ u, vs[j]? = some u ∧ bB (fun _ _ => none) (dG ds j) u
def TZ : Value → Prop
 | .string _ => True
 | _ => False
/-- A map from texts. -/
structure MQ (ss : List Sh) (ag : Bool) (f : List UInt8 → Option (List FD)) (es : Array MapEntry) : Prop where
 keys : ∀ x ∈ es.toList, TZ x.key
 all : ∀ x ∈ es.toList, ∀ l : List UInt8, x.key = .string ⟨l.toArray⟩ → ∃ ds, f l = some ds ∧ TY ss ag ds x.val
 any : ∀ l ds, f l = some ds → ∃ x ∈ es.toList, x.key = .string ⟨l.toArray⟩
 dist : es.toList.Pairwise (fun x y => x.key ≠ y.key)

def Blk.Rel (η : Env) (E : Emb) (K : Nat) : Blk → Option Obj → Prop
 | .cells e sz l, o => ∃ c vs rest, o = some (.cells c e (0, 0)) ∧ c.size = K * sz ∧ K ≤ maxLen ∧ aL η E l = some vs ∧ c.toList = vs ++ rest
 | .map ss ag f, o => ∃ es ck, o = some (.map es ck) ∧ MQ ss ag f es
 | .arow l, o => ∃ c e fz vs, o = some (.cells c e fz) ∧ aL η E l = some vs ∧ ∀ j v, vs[j]? = some v → c[K + j]? = some v
 | .row e cs n f, o => ∃ c, o = some (.cells c e (0, 0)) ∧ c.size = K * cs.length ∧ n ≤ K ∧ K ≤ maxLen ∧ 0 < cs.length ∧ ∀ i, i < n → ∀ j, j < cs.length → (iD cs j).ex (f i j) = f i j ∧ ∃ u, c[i * cs.length + j]? = some u ∧ bB E.z (f i j) u
 | .mat _ e _ n _ _ _, o => ∃ c, o = some (.cells c e (0, 0)) ∧ c.size = K ∧ n ≤ K ∧ K ≤ maxLen
/-- Blocks that may be written. -/
def Blk.own : Blk → Prop
 | .arow _ => False
 | _ => True

theorem Blk.Rel.mono {η : Env} {E E' : Emb} (h : E.le E') {K : Nat} {b : Blk} {o : Option Obj} (hr : b.Rel η E K o) : b.Rel η E' K o := by
 cases b with
 | cells e sz l => obtain ⟨c, vs, rest, h1, h2, h3, h4, h5⟩ := hr; exact ⟨c, vs, rest, h1, h2, h3, fA h h4, h5⟩
 | map ss ag f => exact hr
 | arow l => obtain ⟨c, e, fz, vs, h1, h2, h3⟩ := hr; exact ⟨c, e, fz, vs, h1, fA h h2, h3⟩
 | row e cs n f =>
  obtain ⟨c, h1, h2, h3, h4, h5, h6⟩ := hr
  refine ⟨c, h1, h2, h3, h4, h5, fun i hi j hj => ?_⟩
  obtain ⟨k1, u, k2, k3⟩ := h6 i hi j hj
  exact ⟨k1, u, k2, k3.mono h.z⟩
 | mat q e s n x m f => exact hr

/-! ## Rows of rows -/
def x8 (E : Emb) (w : World) (s : Sh) (m : Nat) (g : Nat → FD) (B L : Nat) : Prop :=
 ∃ c e, w.heap[B]? = some (.cells c e (0, 0)) ∧ c.size = L ∧ m ≤ L ∧ L ≤ maxLen ∧ ∀ k, k < m → s.ex (g k) = g k ∧ ∃ u, c[k]? = some u ∧ bB E.z (g k) u
def MIn (E : Emb) (hp : T Blk) (B : Nat) : Prop := ∃ b q e s n x m f i L, hp.get b = some (.mat q e s n x m f) ∧ i < x ∧ E.m q i = some (B, L)
def XA (E : Emb) (hp : T Blk) (B : Nat) : Prop := ∃ b q e s n x m f K, hp.get b = some (.mat q e s n x m f) ∧ E b = some (B, K)
structure tI (E : Emb) (hp : T Blk) (nx lo base : Nat) (w : World) : Prop where
 dom : ∀ q i x, E.m q i = some x → q < nx
 top : ∀ q i B L, E.m q i = some (B, L) → B < w.heap.size
 hi : ∀ q i B L, lo ≤ q → E.m q i = some (B, L) → base ≤ B
 row : ∀ b q e s n x m f, hp.get b = some (.mat q e s n x m f) → ∃ B K c, E b = some (B, K) ∧ w.heap[B]? = some (.cells c e (0, 0)) ∧ x ≤ n ∧
  (∀ i, i < x → ∃ B' L, E.m q i = some (B', L) ∧ c[i]? = some (.slice (some ⟨B', 0, none⟩) m L) ∧ x8 E w s m (f i) B' L) ∧ ∀ i, i < n → ∃ u, c[i]? = some u
 z : ∀ B, MIn E hp B → ∀ o, E.z B o = none
 own : ∀ B, MIn E hp B → ∀ j c K, hp.get j = some c → E j = some (B, K) → False
 inj : ∀ b q e s n x m f b' q' e' s' n' x' m' f' i i' B L L', hp.get b = some (.mat q e s n x m f) → hp.get b' = some (.mat q' e' s' n' x' m' f') → i < x → i' < x' → E.m q i = some (B, L) → E.m q' i' = some (B, L') → q = q' ∧ i = i'
 uni : ∀ b q e s n x m f b' e' s' n' x' m' f', hp.get b = some (.mat q e s n x m f) → hp.get b' = some (.mat q e' s' n' x' m' f') → b = b'
 qlt : ∀ b q e s n x m f, hp.get b = some (.mat q e s n x m f) → q < nx
theorem tI.keep {E : Emb} {hp : T Blk} {nx lo base : Nat} {w : World} (h : tI E hp nx lo base w) {E' : Emb} {hp' : T Blk} {nx' lo' base' : Nat} {w' : World} (hm : ∀ q i, E'.m q i = E.m q i) (hnx : nx ≤ nx') (hhi : ∀ q i B L, lo' ≤ q → E.m q i = some (B, L) → base' ≤ B)
  (hsz : w.heap.size ≤ w'.heap.size) (hget : ∀ b q e s n x m f, hp'.get b = some (.mat q e s n x m f) → hp.get b = some (.mat q e s n x m f) ∧ E' b = E b) (hz : ∀ B o v, E.z B o = some v → E'.z B o = some v)
  (hout : ∀ B, XA E hp B → w'.heap[B]? = w.heap[B]?) (hin : ∀ B, MIn E hp B → w'.heap[B]? = w.heap[B]?) (hzn : ∀ B, MIn E hp B → ∀ o, E'.z B o = none) (hown : ∀ B, MIn E hp B → ∀ j c K, hp'.get j = some c → E' j = some (B, K) → False) : tI E' hp' nx' lo' base' w' := by
 have hIn : ∀ B, MIn E' hp' B → MIn E hp B := by
  rintro B ⟨b, q, e, s, n, x, m, f, i, L, h1, h2, h3⟩
  exact ⟨b, q, e, s, n, x, m, f, i, L, (hget _ _ _ _ _ _ _ _ h1).1, h2, by rw [← hm]; exact h3⟩
 refine ⟨fun q i x hx => Nat.lt_of_lt_of_le (h.dom q i x (by rw [← hm]; exact hx)) hnx, fun q i B L hx => Nat.lt_of_lt_of_le (h.top q i B L (by rw [← hm]; exact hx)) hsz, fun q i B L hq hx => hhi q i B L hq (by rw [← hm]; exact hx), fun b q e s n x m f hb => ?_, fun B hB => hzn B (hIn B hB), fun B hB => hown B (hIn B hB), ?_, ?_, fun b q e s n x m f hb => Nat.lt_of_lt_of_le (h.qlt b q e s n x m f (hget _ _ _ _ _ _ _ _ hb).1) hnx⟩
 ·obtain ⟨g1, g2⟩ := hget _ _ _ _ _ _ _ _ hb
  obtain ⟨B, K, c, k1, k2, k3, k4, k5⟩ := h.row b q e s n x m f g1
  refine ⟨B, K, c, by rw [g2]; exact k1, by rw [hout B ⟨b, q, e, s, n, x, m, f, K, g1, k1⟩]; exact k2, k3, fun i hi => ?_, k5⟩
  obtain ⟨B', L, l1, l2, c', e', l3, l4, l5, l6, l7⟩ := k4 i hi
  refine ⟨B', L, by rw [hm]; exact l1, l2, c', e', by rw [hin B' ⟨b, q, e, s, n, x, m, f, i, L, g1, hi, l1⟩]; exact l3, l4, l5, l6, fun k hk => ?_⟩
  obtain ⟨r1, u, r2, r3⟩ := l7 k hk
  exact ⟨r1, u, r2, r3.mono hz⟩
 ·intro b q e s n x m f b' q' e' s' n' x' m' f' i i' B L L' hb hb' hi hi' hE hE'
  exact h.inj b q e s n x m f b' q' e' s' n' x' m' f' i i' B L L' (hget _ _ _ _ _ _ _ _ hb).1 (hget _ _ _ _ _ _ _ _ hb').1 hi hi' (by rw [← hm]; exact hE) (by rw [← hm]; exact hE')
 ·intro b q e s n x m f b' e' s' n' x' m' f' hb hb'
  exact h.uni b q e s n x m f b' e' s' n' x' m' f' (hget _ _ _ _ _ _ _ _ hb).1 (hget _ _ _ _ _ _ _ _ hb').1
theorem tI.empty {E : Emb} {hp : T Blk} {nx lo base : Nat} {w : World} (hm : ∀ q i, E.m q i = none) (hh : ∀ b q e s n x m f, hp.get b ≠ some (.mat q e s n x m f)) : tI E hp nx lo base w where
 dom := fun q i x h => by rw [hm] at h; cases h
 top := fun q i B L h => by rw [hm] at h; cases h
 hi := fun q i B L _ h => by rw [hm] at h; cases h
 row := fun b q e s n x m f h => (hh b q e s n x m f h).elim
 z := fun B h => by obtain ⟨b, q, e, s, n, x, m, f, i, L, h1, _⟩ := h; exact (hh _ _ _ _ _ _ _ _ h1).elim
 own := fun B h => by obtain ⟨b, q, e, s, n, x, m, f, i, L, h1, _⟩ := h; exact (hh _ _ _ _ _ _ _ _ h1).elim
 inj := fun b q e s n x m f b' q' e' s' n' x' m' f' i i' B L L' h => (hh b q e s n x m f h).elim
 uni := fun b q e s n x m f b' e' s' n' x' m' f' h => (hh b q e s n x m f h).elim
 qlt := fun b q e s n x m f h => (hh b q e s n x m f h).elim
theorem MIn.lt {E : Emb} {hp : T Blk} {nx lo base : Nat} {w : World} (h : tI E hp nx lo base w) {B : Nat} (hB : MIn E hp B) : B < w.heap.size := by
 obtain ⟨b, q, e, s, n, x, m, f, i, L, h1, h2, h3⟩ := hB
 exact h.top _ _ _ _ h3
def Blk.noM : Blk → Prop
 | .mat _ _ _ _ _ _ _ => False
 | _ => True

/-- A slice of new memory. -/
def nO (s : Nat) (v : Value) : Prop := ∀ a n c, v = .slice (some a) n c → 0 < n → s ≤ a.block
/-- A block that stays as it is: of no cells, or no part of frozen memory and of rows of rows. -/
def CB (E : Emb) (D : Nat) (o : Obj) : Prop := o.isCells = false ∨ ((∀ j, E.z D j = none) ∧ ∀ q i L, E.m q i ≠ some (D, L))
theorem CB.of {E E' : Emb} {D : Nat} {o : Obj} (h : CB E D o) (hz : ∀ j v, E'.z D j = some v → E.z D j = some v) (hm : ∀ q i L, E'.m q i = some (D, L) → ∃ q' i' L', E.m q' i' = some (D, L')) : CB E' D o := by
 rcases h with h | ⟨h1, h2⟩
 ·exact .inl h
 ·refine .inr ⟨fun j => ?_, fun q i L e => by obtain ⟨q', i', L', e'⟩ := hm q i L e; exact h2 q' i' L' e'⟩
  cases hv : E'.z D j with
  | none => rfl
  | some v => have := hz j v hv; rw [h1 j] at this; cases this
/-- The heap, from block number 'base' on, holds the executor's blocks from 'lo' on; the blocks below 'lo' lie below 'base'. -/
structure aD (η : Env) (E : Emb) (hp : T Blk) (nx lo base : Nat) (w : World) : Prop where
 dom : ∀ i b, hp.get i = some b → i < nx
 cell : ∀ i b, hp.get i = some b → ∃ B K, E i = some (B, K) ∧ b.Rel η E K w.heap[B]?
 inj : ∀ i j b c B C K L, i ≠ j → hp.get i = some b → hp.get j = some c → E i = some (B, K) → E j = some (C, L) → B ≠ C
 hi : ∀ i B K, lo ≤ i → E i = some (B, K) → base ≤ B
 top : ∀ i B K, E i = some (B, K) → B < w.heap.size
 bot : base ≤ w.heap.size
 free : ∀ i, nx ≤ i → E i = none
 lim : nx ≤ 65000
 zw : ∀ B o v, E.z B o = some v → w.cell? ⟨B, o, none⟩ = some v
 zd : ∀ i b B K, hp.get i = some b → b.own → E i = some (B, K) → ∀ o, E.z B o = none
 rfree : ∀ k, nx ≤ k → ∀ j, E.r k j = none
 dk : ∀ D o, E.d D = some o → base ≤ D ∧ w.heap[D]? = some o ∧ CB E D o ∧ ∀ i K, E i ≠ some (D, K)
 rn : (∀ k j v, lo ≤ k → E.r k j = some v → nO base v) ∧ ∀ B o v, B < base → E.z B o = some v → E.dl.z0 B o = some v
 mt : tI E hp nx lo base w

theorem aD.zlt {η : Env} {E : Emb} {hp : T Blk} {nx lo base : Nat} {w : World} (h : aD η E hp nx lo base w) {B o : Nat} {v : Value} (hz : E.z B o = some v) : B < w.heap.size := by
 have := h.zw B o v hz
 rcases Nat.lt_or_ge B w.heap.size with hlt | hge
 ·exact hlt
 ·exfalso
  unfold World.cell? at this
  rw [Array.getElem?_eq_none (by simpa using hge)] at this
  simp at this

theorem aD.below {η : Env} {E : Emb} {hp : T Blk} {nx lo base : Nat} {w w' : World} (h : aD η E hp nx lo base w) (hb : Below w.heap.size w w') : aD η E hp nx lo base w' where
 dom := h.dom
 cell := fun i b hi => by
  obtain ⟨B, K, hE, hr⟩ := h.cell i b hi
  exact ⟨B, K, hE, by rw [hb.block B (h.top i B K hE)]; exact hr⟩
 inj := h.inj
 hi := h.hi
 top := fun i B K hE => Nat.lt_of_lt_of_le (h.top i B K hE) hb.size
 bot := Nat.le_trans h.bot hb.size
 free := h.free
 lim := h.lim
 zw := fun B o v hz => (World.cell?_of_block (a := ⟨B, o, none⟩) (hb.block B (h.zlt hz))).trans (h.zw B o v hz)
 zd := h.zd
 rfree := h.rfree
 dk := fun D o hD => ⟨(h.dk D o hD).1, (hb.block D (Array.getElem?_eq_some_iff.1 (h.dk D o hD).2.1).1).trans (h.dk D o hD).2.1, (h.dk D o hD).2.2⟩
 rn := h.rn
 mt := h.mt.keep (fun _ _ => rfl) (Nat.le_refl _) h.mt.hi hb.size (fun _ _ _ _ _ _ _ _ hg => ⟨hg, rfl⟩) (fun _ _ _ h => h) (fun B ⟨b, _, _, _, _, _, _, _, K, _, hE⟩ => hb.block B (h.top b B K hE)) (fun B hB => hb.block B (hB.lt h.mt)) h.mt.z h.mt.own

/-- Dropping blocks. -/
theorem aD.sub {η : Env} {E : Emb} {hp hp' : T Blk} {nx lo base : Nat} {w : World} (h : aD η E hp nx lo base w) (hs : ∀ i b, hp'.get i = some b → hp.get i = some b) : aD η E hp' nx lo base w where
 dom := fun i b hi => h.dom i b (hs i b hi)
 cell := fun i b hi => h.cell i b (hs i b hi)
 inj := fun i j b c B C K L hne hi hj => h.inj i j b c B C K L hne (hs i b hi) (hs j c hj)
 hi := h.hi
 top := h.top
 bot := h.bot
 free := h.free
 lim := h.lim
 zw := h.zw
 zd := fun i b B K hi => h.zd i b B K (hs i b hi)
 rfree := h.rfree
 dk := h.dk
 rn := h.rn
 mt := h.mt.keep (fun _ _ => rfl) (Nat.le_refl _) h.mt.hi (Nat.le_refl _) (fun _ _ _ _ _ _ _ _ hg => ⟨hs _ _ hg, rfl⟩) (fun _ _ _ h => h) (fun _ _ => rfl) (fun _ _ => rfl) h.mt.z (fun B hB j c K hj => h.mt.own B hB j c K (hs _ _ hj))

theorem aD.drew {η : Env} {E : Emb} {hp : T Blk} {nx lo base : Nat} {w : World} (h : aD η E hp nx lo base w) : aD η E hp nx lo base w.drew := h.below (Below.refl _ _).drew

def Emb.set (E : Emb) (n : Nat) (x : Nat × Nat) : Emb := { E with b := fun i => if i = n then some x else E i }
theorem Emb.le_set {E : Emb} {n : Nat} {x : Nat × Nat} (h : E n = none) : E.le (E.set n x) := ⟨fun b y hb => by
 unfold Emb.set
 simp only
 split
 ·rename_i e; subst e; rw [h] at hb; cases hb
 ·exact hb, fun _ _ _ h => h, fun _ _ _ h => h, fun _ _ _ h => h⟩
theorem Emb.set_same (E : Emb) (n : Nat) (x : Nat × Nat) : E.set n x n = some x := by simp [Emb.set]
theorem Emb.set_ne (E : Emb) {n i : Nat} (x : Nat × Nat) (h : i ≠ n) : E.set n x i = E i := by simp [Emb.set, h]

/-- E' is E below n. -/
structure aH (E E' : Emb) (n : Nat) : Prop where
 b : ∀ i, i < n → E' i = E i
 r : ∀ k, k < n → ∀ j, E'.r k j = E.r k j
 z : ∀ B o v, E.z B o = some v → E'.z B o = some v
 d : ∀ D o, E.d D = some o → E'.d D = some o
 dl : E'.dl = E.dl
 m : ∀ q, q < n → ∀ i, E'.m q i = E.m q i
theorem aH.refl (E : Emb) (n : Nat) : aH E E n := ⟨fun _ _ => rfl, fun _ _ _ => rfl, fun _ _ _ h => h, fun _ _ h => h, rfl, fun _ _ _ => rfl⟩
theorem aH.trans {E E' E'' : Emb} {n m : Nat} (h : aH E E' n) (h' : aH E' E'' m) (hm : n ≤ m) : aH E E'' n :=
 ⟨fun i hi => (h'.b i (by omega)).trans (h.b i hi), fun k hk j => (h'.r k (by omega) j).trans (h.r k hk j), fun B o v hv => h'.z B o v (h.z B o v hv), fun D o hD => h'.d D o (h.d D o hD), h'.dl.trans h.dl, fun q hq i => (h'.m q (by omega) i).trans (h.m q hq i)⟩
theorem aH.le {η : Env} {E E' : Emb} {hp : T Blk} {nx lo base : Nat} {w : World} (h : aH E E' nx) (hr : aD η E hp nx lo base w) : E.le E' := by
 refine ⟨fun b x hb => ?_, fun k j v hv => ?_, h.z, fun q i x hx => by rw [h.m q (hr.mt.dom q i x hx)]; exact hx⟩
 ·by_cases hlt : b < nx
  ·rw [h.b b hlt]; exact hb
  ·rw [hr.free b (by omega)] at hb; cases hb
 ·by_cases hlt : k < nx
  ·rw [h.r k hlt]; exact hv
  ·rw [hr.rfree k (by omega)] at hv; cases hv

theorem aH.set (E : Emb) (n : Nat) (x : Nat × Nat) : aH E (E.set n x) n := ⟨fun _ hi => Emb.set_ne _ _ (by omega), fun _ _ _ => rfl, fun _ _ _ h => h, fun _ _ h => h, rfl, fun _ _ _ => rfl⟩
theorem aH.less {E E' : Emb} {n m : Nat} (h : aH E E' n) (hm : m ≤ n) : aH E E' m := ⟨fun i hi => h.b i (by omega), fun k hk => h.r k (by omega), h.z, h.d, h.dl, fun q hq => h.m q (by omega)⟩

/-- A new block. -/
theorem aD.alloc {η : Env} {E : Emb} {hp : T Blk} {nx lo base : Nat} {w : World} (h : aD η E hp nx lo base w) {n : Nat} {b : Blk} {o : Obj} {K m : Nat} (hn : E n = none) (hnx : n < m) (hm : nx ≤ m) (hmm : m ≤ 65000) (hfree : ∀ i, m ≤ i → E i = none)
  (hr : b.Rel η (E.set n (w.heap.size, K)) K (some o)) (hbm : b.noM := by trivial) : aD η (E.set n (w.heap.size, K)) (hp.set n (some b)) m lo base (w.alloc o) := by
 have hle : E.le (E.set n (w.heap.size, K)) := Emb.le_set hn
 have hget : ∀ i c, (hp.set n (some b)).get i = some c → (i = n ∧ c = b) ∨ (i ≠ n ∧ hp.get i = some c) := by
  intro i c hi
  by_cases hin : i = n
  ·subst hin
   rw [T.get_set_same _ _ _ (by omega)] at hi
   cases hi; exact .inl ⟨rfl, rfl⟩
  ·rw [T.get_set_ne _ _ _ _ (Ne.symm hin)] at hi
   exact .inr ⟨hin, hi⟩
 refine ⟨?_, ?_, ?_, ?_, ?_, ?_, ?_, hmm, ?_, ?_, fun k hk => h.rfree k (by omega), fun D o hD => ⟨(h.dk D o hD).1, (Below.heap_alloc _ _ _ (Array.getElem?_eq_some_iff.1 (h.dk D o hD).2.1).1).trans (h.dk D o hD).2.1, (h.dk D o hD).2.2.1, (fun i L hE => by
  have hlt := (Array.getElem?_eq_some_iff.1 (h.dk D o hD).2.1).1
  by_cases hin : i = n
  ·subst hin; rw [Emb.set_same] at hE; cases hE; omega
  ·rw [Emb.set_ne _ _ hin] at hE; exact (h.dk D o hD).2.2.2 i L hE)⟩, h.rn, ?_⟩
 ·intro i c hi
  rcases hget i c hi with ⟨rfl, _⟩ | ⟨_, hi⟩
  ·exact hnx
  ·exact Nat.lt_of_lt_of_le (h.dom i c hi) hm
 ·intro i c hi
  rcases hget i c hi with ⟨rfl, rfl⟩ | ⟨hne, hi⟩
  ·refine ⟨w.heap.size, K, Emb.set_same .., ?_⟩
   rw [heap_alloc_new]; exact hr
  ·obtain ⟨B, L, hE, hr'⟩ := h.cell i c hi
   refine ⟨B, L, by rw [Emb.set_ne _ _ hne]; exact hE, ?_⟩
   rw [Below.heap_alloc _ _ _ (h.top i B L hE)]
   exact hr'.mono hle
 ·intro i j c d B C L M hne hi hj hE hE'
  rcases hget i c hi with ⟨rfl, _⟩ | ⟨hni, hi⟩ <;> rcases hget j d hj with ⟨rfl, _⟩ | ⟨hnj, hj⟩
  ·exact absurd rfl hne
  ·rw [Emb.set_same] at hE; rw [Emb.set_ne _ _ hnj] at hE'
   have := h.top j C M hE'
   cases hE; omega
  ·rw [Emb.set_same] at hE'; rw [Emb.set_ne _ _ hni] at hE
   have := h.top i B L hE
   cases hE'; omega
  ·rw [Emb.set_ne _ _ hni] at hE; rw [Emb.set_ne _ _ hnj] at hE'
   exact h.inj i j c d B C L M hne hi hj hE hE'
 ·intro i B L hl hE
  by_cases hin : i = n
  ·subst hin; rw [Emb.set_same] at hE; cases hE; exact h.bot
  ·rw [Emb.set_ne _ _ hin] at hE; exact h.hi i B L hl hE
 ·intro i B L hE
  simp only [World.size_alloc]
  by_cases hin : i = n
  ·subst hin; rw [Emb.set_same] at hE; cases hE; omega
  ·rw [Emb.set_ne _ _ hin] at hE; have := h.top i B L hE; omega
 ·simp only [World.size_alloc]; have := h.bot; omega
 ·intro i hi
  rw [Emb.set_ne _ _ (by omega)]; exact hfree i hi
 ·intro B o v hz
  have hz : E.z B o = some v := hz
  exact (World.cell?_of_block (a := ⟨B, o, none⟩) (Below.heap_alloc _ _ _ (h.zlt hz))).trans (h.zw B o v hz)
 ·intro i c B L hi ho hE o
  cases hz : (E.set n (w.heap.size, K)).z B o with
  | none => rfl
  | some v =>
   exfalso
   have hz : E.z B o = some v := hz
   rcases hget i c hi with ⟨rfl, _⟩ | ⟨hni, hi⟩
   ·rw [Emb.set_same] at hE
    have := h.zlt hz
    cases hE; omega
   ·rw [Emb.set_ne _ _ hni] at hE
    rw [h.zd i c B L hi ho hE o] at hz
    cases hz
 ·refine h.mt.keep (fun _ _ => rfl) hm h.mt.hi (by simp only [World.size_alloc]; omega) (fun b' q e s n' x m' f hg => ?_) (fun _ _ _ h => h) (fun B ⟨b', _, _, _, _, _, _, _, K', _, hE⟩ => Below.heap_alloc _ _ _ (h.top b' B K' hE)) (fun B hB => Below.heap_alloc _ _ _ (hB.lt h.mt)) h.mt.z (fun B hB j c K' hj hE => ?_)
  ·rcases hget b' _ hg with ⟨rfl, rfl⟩ | ⟨hne, hi⟩
   ·exact hbm.elim
   ·exact ⟨hi, Emb.set_ne _ _ hne⟩
  ·rcases hget j c hj with ⟨rfl, _⟩ | ⟨hne, hi⟩
   ·rw [Emb.set_same] at hE
    have := hB.lt h.mt
    cases hE; omega
   ·rw [Emb.set_ne _ _ hne] at hE
    exact h.mt.own B hB j c K' hi hE

/-- A write to a block that the executor knows. -/
theorem aD.write {η : Env} {E : Emb} {hp : T Blk} {nx lo base : Nat} {w w' : World} (h : aD η E hp nx lo base w) {n B K : Nat} {b b' : Blk} (hb : hp.get n = some b) (hE : E n = some (B, K))
  (hsize : w'.heap.size = w.heap.size) (hoth : ∀ k, k ≠ B → w'.heap[k]? = w.heap[k]?) (hr : b'.Rel η E K w'.heap[B]?) (ho : b.own := by trivial) (hbm : b.noM := by trivial) (hbm' : b'.noM := by trivial) : aD η E (hp.set n (some b')) nx lo base w' := by
 have hn : n < 65535 := by have := h.dom n b hb; have := h.lim; omega
 have hget : ∀ i c, (hp.set n (some b')).get i = some c → (i = n ∧ c = b') ∨ (i ≠ n ∧ hp.get i = some c) := by
  intro i c hi
  by_cases hin : i = n
  ·subst hin
   rw [T.get_set_same _ _ _ hn] at hi
   cases hi; exact .inl ⟨rfl, rfl⟩
  ·rw [T.get_set_ne _ _ _ _ (Ne.symm hin)] at hi
   exact .inr ⟨hin, hi⟩
 refine ⟨?_, ?_, ?_, h.hi, ?_, ?_, h.free, h.lim, ?_, ?_, h.rfree, ?_, h.rn, ?_⟩
 ·intro i c hi
  rcases hget i c hi with ⟨rfl, _⟩ | ⟨_, hi⟩
  ·exact h.dom _ _ hb
  ·exact h.dom i c hi
 ·intro i c hi
  rcases hget i c hi with ⟨rfl, rfl⟩ | ⟨hne, hi⟩
  ·exact ⟨B, K, hE, hr⟩
  ·obtain ⟨C, L, hE', hr'⟩ := h.cell i c hi
   exact ⟨C, L, hE', by rw [hoth C (h.inj i n c b C B L K hne hi hb hE' hE)]; exact hr'⟩
 ·intro i j c d B' C L M hne hi hj hEi hEj
  rcases hget i c hi with ⟨ei, _⟩ | ⟨_, hi'⟩ <;> rcases hget j d hj with ⟨ej, _⟩ | ⟨_, hj'⟩
  ·exact absurd (ei.trans ej.symm) hne
  ·subst ei; exact h.inj _ j b d B' C L M hne hb hj' hEi hEj
  ·subst ej; exact h.inj i _ c b B' C L M hne hi' hb hEi hEj
  ·exact h.inj i j c d B' C L M hne hi' hj' hEi hEj
 ·intro i C L hE'; rw [hsize]; exact h.top i C L hE'
 ·rw [hsize]; exact h.bot
 ·intro C o v hz
  have hne : C ≠ B := by
   rintro rfl
   rw [h.zd n b C K hb ho hE o] at hz; cases hz
  exact (World.cell?_of_block (a := ⟨C, o, none⟩) (hoth C hne)).trans (h.zw C o v hz)
 ·intro i c C L hi hc hE' o
  rcases hget i c hi with ⟨rfl, _⟩ | ⟨_, hi⟩
  ·exact h.zd _ b C L hb ho hE' o
  ·exact h.zd i c C L hi hc hE' o
 ·intro D o hD
  obtain ⟨hDb, hd, ho', hne⟩ := h.dk D o hD
  exact ⟨hDb, (hoth D fun e => by subst e; exact hne n K hE).trans hd, ho', hne⟩
 ·refine h.mt.keep (fun _ _ => rfl) (Nat.le_refl _) h.mt.hi (by rw [hsize]; exact Nat.le_refl _) (fun b1 q e s n' x m' f hg => ?_) (fun _ _ _ h => h) (fun C ⟨b1, q, e, s, n', x, m', f, K', hg, hE'⟩ => hoth C fun e => ?_) (fun C hC => hoth C fun e => ?_) h.mt.z (fun C hC j c K' hj hE' => ?_)
  ·rcases hget b1 _ hg with ⟨rfl, rfl⟩ | ⟨hne, hi⟩
   ·exact hbm'.elim
   ·exact ⟨hi, rfl⟩
  ·subst e
   by_cases hbn : b1 = n
   ·subst hbn; rw [hb] at hg; cases hg; exact hbm.elim
   ·exact h.inj b1 n _ b C C K' K hbn hg hb hE' hE rfl
  ·subst e
   exact h.mt.own C hC n b K hb hE
  ·rcases hget j c hj with ⟨rfl, _⟩ | ⟨hne, hi⟩
   ·exact h.mt.own C hC _ b K' hb hE'
   ·exact h.mt.own C hC j c K' hi hE'

/-- The slots. -/
def gO (η : Env) (E : Emb) (tm : T Sv) (a : Act) : Prop := ∀ t sv, tm.get t = some sv → ∃ v, a.tmps[t]? = some v ∧ sv.den η E = some v

theorem gO.mono {η : Env} {E E' : Emb} (h : E.le E') {tm : T Sv} {a : Act} (hf : gO η E tm a) : gO η E' tm a := fun t sv ht => by
 obtain ⟨v, h1, h2⟩ := hf t sv ht
 exact ⟨v, h1, Sv.den_mono h h2⟩

theorem gO.put {η : Env} {E : Emb} {tm : T Sv} {a : Act} (hf : gO η E tm a) {d : Nat} {sv : Sv} {v : Value} (hd : d < 65535) (hs : d < a.tmps.size) (hv : sv.den η E = some v) : gO η E (tm.set d (some sv)) (a.put (some d) v) := by
 intro t x ht
 by_cases htd : d = t
 ·subst htd
  rw [T.get_set_same _ _ _ hd] at ht
  cases ht
  exact ⟨v, by simp [Act.put, hs], hv⟩
 ·rw [T.get_set_ne _ _ _ _ htd] at ht
  obtain ⟨u, h1, h2⟩ := hf t x ht
  exact ⟨u, by simp [Act.put, Array.getElem?_setIfInBounds_ne htd, h1], h2⟩

end Go.Ex

