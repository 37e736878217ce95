/-
 The executor: rows of cells that are handed to a summary are frozen first.
-/
import Derived.Test.YtdpabnfcfakjeaaEx13

namespace Go.Ex
open Go Go.RowKit
noncomputable section

def shZ : Nat → Sh → Sh → Bool
 | 0, _, _ => false
 | n + 1, a, b => match a, b with
  | .bool, .bool => true
  | .int k, .int k' => decide (k = k')
  | .str, .str => true
  | .list [x], .list [y] => shZ n x y
  | _, _ => false
theorem QX : ∀ {n : Nat} {a b : Sh}, shZ n a b = true → a = b
 | 0, _, _, h => by cases h
 | n + 1, a, b, h => by
  simp only [shZ] at h
  split at h <;> first | (cases h; done) | skip
  ·rfl
  ·rw [of_decide_eq_true h]
  ·rfl
  ·rw [QX h]
def H5 (c : Sc) : Option (Sh × FD × List Nat) :=
 match KW c with
 | some (s, d) => some (s, d, [])
 | none => none
def sM (F : Sc → Option (Sh × FD × List Nat)) : Nat → List Sc → Option (List (Sh × FD × List Nat))
 | 0, _ => some []
 | _ + 1, [] => none
 | m + 1, c :: l => match F c, sM F m l with
  | some x, some r => some (x :: r)
  | _, _ => none
def wV : List (Sh × FD × List Nat) → List Nat
 | [] => []
 | x :: l => x.2.2 ++ wV l
def LA : List (Sh × FD × List Nat) → List FD
 | [] => []
 | x :: l => x.2.1 :: LA l
def H6 (hp : T Blk) : Nat → Sc → Option (Sh × FD × List Nat)
 | 0, c => H5 c
 | n + 1, c => match c with
  | .slice (some (b, 0)) m (.rest _) => match hp.get b with
   | some (.cells _ sz l) => bif Nat.beq sz 1 then match sM (H6 hp n) m l with
     | some (x :: r) => bif r.all (fun y => shZ 9 x.1 y.1) then some (.list [x.1], .list [x.1] m (fun i _ => dG (LA (x :: r)) i), b :: wV (x :: r)) else none
     | _ => none
    else none
   | _ => none
  | c => H5 c
theorem sN {F : Sc → Option (Sh × FD × List Nat)} : ∀ {m : Nat} {l : List Sc} {xs : List (Sh × FD × List Nat)}, sM F m l = some xs → xs.length = m ∧ ∀ i, i < m → ∃ c x, l[i]? = some c ∧ xs[i]? = some x ∧ F c = some x
 | 0, l, xs, h => by cases h; exact ⟨rfl, fun i hi => by omega⟩
 | m + 1, [], xs, h => by cases h
 | m + 1, c :: l, xs, h => by
  simp only [sM] at h
  split at h
  ·rename_i x r hx hr
   cases h
   obtain ⟨h1, h2⟩ := sN hr
   refine ⟨by simp [h1], fun i hi => ?_⟩
   cases i with
   | zero => exact ⟨c, x, rfl, rfl, hx⟩
   | succ i =>
    obtain ⟨c', x', q1, q2, q3⟩ := h2 i (by omega)
    exact ⟨c', x', by simpa using q1, by simpa using q2, q3⟩
  ·cases h
theorem NA : ∀ {xs : List (Sh × FD × List Nat)} {i : Nat} {x : Sh × FD × List Nat}, xs[i]? = some x → dG (LA xs) i = x.2.1
 | y :: l, 0, x, h => by cases h; rfl
 | y :: l, i + 1, x, h => by
  show dG (LA l) i = _
  exact NA (by simpa using h)
theorem vH : ∀ {xs : List (Sh × FD × List Nat)} {i : Nat} {x : Sh × FD × List Nat}, xs[i]? = some x → ∀ b ∈ x.2.2, b ∈ wV xs
 | y :: l, 0, x, h, b, hb => by cases h; exact List.mem_append_left _ hb
 | y :: l, i + 1, x, h, b, hb => List.mem_append_right _ (vH (by simpa using h) b hb)
theorem zI : ∀ {xs : List (Sh × FD × List Nat)} {b : Nat}, b ∈ wV xs → ∃ x ∈ xs, b ∈ x.2.2
 | y :: l, b, h => by
  rcases List.mem_append.1 h with h | h
  ·exact ⟨y, List.mem_cons_self .., h⟩
  ·obtain ⟨x, h1, h2⟩ := zI h
   exact ⟨x, List.mem_cons_of_mem _ h1, h2⟩
theorem H7 {η : Env} {E : Emb} {c : Sc} {s : Sh} {d : FD} {bs : List Nat} {v : Value} (h : H5 c = some (s, d, bs)) (hv : c.den η E = some v) : bs = [] ∧ s.ex d = d ∧ bB E.z d v := by
 unfold H5 at h
 split at h
 ·rename_i s' d' hs
  cases h
  obtain ⟨h1, h2⟩ := sG hs hv
  exact ⟨rfl, h1, h2⟩
 ·cases h
theorem C1 {η : Env} {E : Emb} : ∀ {l : List Sc} {vs : List Value} {i : Nat} {c : Sc}, aL η E l = some vs → l[i]? = some c → ∃ u, vs[i]? = some u ∧ c.den η E = some u
 | a :: l, vs, i, c, h, hi => by
  obtain ⟨u, us, e1, e2, rfl⟩ := aP h
  cases i with
  | zero => cases hi; exact ⟨u, rfl, e1⟩
  | succ i =>
   obtain ⟨u', g1, g2⟩ := C1 e2 (show l[i]? = some c by simpa using hi)
   exact ⟨u', by simpa using g1, g2⟩
/-- What is frozen reads as it did; all its blocks are cells. -/
theorem wW {η : Env} {E : Emb} {hp : T Blk} {nx lo base : Nat} {w : World} (hH : aD η E hp nx lo base w) {Z : Nat → Nat → Option Value} (hz : ∀ B o u, E.z B o = some u → Z B o = some u) : ∀ {n : Nat} {c : Sc} {s : Sh} {d : FD} {bs : List Nat} {v : Value}, H6 hp n c = some (s, d, bs) → c.den η E = some v →
  (∀ b ∈ bs, ∃ x, hp.get b = some x) ∧ ((∀ b ∈ bs, ∀ B K, E b = some (B, K) → ∀ o u, w.cell? ⟨B, o, none⟩ = some u → Z B o = some u) → s.ex d = d ∧ bB Z d v)
 | 0, c, s, d, bs, v, h, hv => by
  obtain ⟨rfl, h1, h2⟩ := H7 h hv
  exact ⟨(fun b hb => by cases hb), fun _ => ⟨h1, h2.mono hz⟩⟩
 | n + 1, c, s, d, bs, v, h, hv => by
  simp only [H6] at h
  split at h
  ·rename_i b m r
   split at h
   ·rename_i e sz l hb
    cases hsz : Nat.beq sz 1 with
    | false => rw [hsz] at h; cases h
    | true =>
     rw [hsz] at h
     have hsz := Nat.eq_of_beq_eq_true hsz
     subst hsz
     simp only [cond_true] at h
     split at h
     ·rename_i x xs hxs
      cases ha : xs.all (fun y => shZ 9 x.1 y.1) with
      | false => rw [ha] at h; cases h
      | true =>
       rw [ha] at h
       simp only [cond_true, Option.some.injEq, Prod.mk.injEq] at h
       obtain ⟨rfl, rfl, rfl⟩ := h
       obtain ⟨hl, hg⟩ := sN hxs
       obtain ⟨B, K, hE, c', vs, rest, q1, q2, q3, q4, q5⟩ := hH.cell b _ hb
       simp only [Sc.den, hE] at hv
       split at hv <;> first | (cases hv; done) | skip
       rename_i hmr
       have hmr : m + r ≤ K := hmr
       simp only [Option.some.injEq] at hv
       subst hv
       have hall : ∀ (i : Nat) (y : Sh × FD × List Nat), (x :: xs)[i]? = some y → y.1 = x.1 := fun i y hy => by
        cases i with
        | zero => cases hy; rfl
        | succ i =>
         have := List.all_eq_true.1 ha y (List.mem_of_getElem? (by simpa using hy))
         exact (QX this).symm
       have hden : ∀ (i : Nat) (c'' : Sc), l[i]? = some c'' → ∃ u, vs[i]? = some u ∧ c''.den η E = some u := fun i c'' hi => C1 q4 hi
       have hcell : ∀ i u, vs[i]? = some u → w.cell? ⟨B, i, none⟩ = some u := fun i u hi => by
        rw [cell_of_row w B i c' e (0, 0) q1, ← Array.getElem?_toList, q5, List.getElem?_append_left (List.getElem?_eq_some_iff.1 hi).1]
        exact hi
       refine ⟨fun b' hb' => ?_, fun hZ => ⟨rfl, some ⟨B, 0, none⟩, K - r, rfl, by omega, by omega, .inr ⟨B, 0, rfl, fun i hi j hj => ?_⟩⟩⟩
       ·cases hb' with
        | head => exact ⟨_, hb⟩
        | tail _ hb' =>
         obtain ⟨y, hy1, hy2⟩ := zI hb'
         obtain ⟨i, hi⟩ := List.mem_iff_getElem?.1 hy1
         obtain ⟨c'', y', g1, g2, g3⟩ := hg i (by have := (List.getElem?_eq_some_iff.1 hi).1; omega)
         rw [hi] at g2; cases g2
         obtain ⟨u, _, hu⟩ := hden i c'' g1
         obtain ⟨ys, yd, yb⟩ := y
         exact (wW hH hz g3 hu).1 b' hy2
       ·obtain ⟨c'', y, g1, g2, g3⟩ := hg i hi
        obtain ⟨u, hu1, hu2⟩ := hden i c'' g1
        have hj : j = 0 := by simpa using hj
        subst hj
        have e1 := hall i y g2
        have e2 := NA g2
        have := (wW hH hz (show H6 hp n c'' = some (y.1, y.2.1, y.2.2) from g3) hu2).2 fun b' hb' => hZ b' (List.mem_cons_of_mem _ (vH g2 b' hb'))
        refine ⟨?_, u, ?_, ?_⟩
        ·show x.1.ex (dG (LA (x :: xs)) i) = dG (LA (x :: xs)) i
         rw [e2, ← e1]
         exact this.1
        ·have : 0 + (i * [x.1].length + 0) = i := by simp
         rw [this]
         exact hZ b (List.mem_cons_self ..) B K hE i u (hcell i u hu1)
        ·show bB Z (dG (LA (x :: xs)) i) u
         rw [e2]
         exact this.2
     ·cases h
   ·cases h
  ·obtain ⟨rfl, h1, h2⟩ := H7 h hv
   exact ⟨(fun b hb => by cases hb), fun _ => ⟨h1, h2.mono hz⟩⟩

/-- Is this a row of cells that can be frozen? -/
def BV (hp : T Blk) (s : Sv) : Option (FD × List Nat) :=
 match s with
 | .one (.slice (some (b, 0)) m c) => match H6 hp 6 (.slice (some (b, 0)) m c) with
  | some (_, d, bs) => some (d, bs)
  | none => none
 | _ => none
def dY (hp : T Blk) (nx : Nat) : Nat → List Sv → List Sv × List Nat
 | _, [] => ([], [])
 | k, s :: l => match BV hp s with
  | some (d, bs) => (.one (.fz (.root nx k) d) :: (dY hp nx (k + 1) l).1, bs ++ (dY hp nx (k + 1) l).2)
  | none => (s :: (dY hp nx (k + 1) l).1, (dY hp nx (k + 1) l).2)
def zJ (hp : T Blk) : List Nat → T Blk
 | [] => hp
 | b :: l => (zJ hp l).set b none
theorem C2 {hp : T Blk} : ∀ {bs : List Nat} {i : Nat} {x : Blk}, (∀ b ∈ bs, b < 65535) → (zJ hp bs).get i = some x → hp.get i = some x ∧ i ∉ bs
 | [], i, x, _, h => ⟨h, by simp⟩
 | b :: l, i, x, hl, h => by
  simp only [zJ] at h
  by_cases e : b = i
  ·subst e
   rw [T.get_set_same _ _ _ (hl b (List.mem_cons_self ..))] at h
   cases h
  ·rw [T.get_set_ne _ _ _ _ e] at h
   obtain ⟨h1, h2⟩ := C2 (fun b hb => hl b (List.mem_cons_of_mem _ hb)) h
   exact ⟨h1, by simp [h2, Ne.symm e]⟩
def WM (o : Option (FD × List Nat)) : Bool :=
 match o with
 | some _ => true
 | none => false
def zOr (p : Prop) (a b : Option Value) : Option Value := @ite _ p (Classical.propDecidable p) a b
theorem NB {p : Prop} (h : p) (a b : Option Value) : zOr p a b = a := by unfold zOr; rw [if_pos h]
theorem jL (p : Prop) (a b : Option Value) : (p ∧ zOr p a b = a) ∨ (¬ p ∧ zOr p a b = b) := by
 by_cases h : p
 ·exact .inl ⟨h, NB h a b⟩
 ·exact .inr ⟨h, by unfold zOr; rw [if_neg h]⟩
def sO (E : Emb) (bs : List Nat) (B : Nat) : Prop := ∃ b ∈ bs, ∃ K, E.b b = some (B, K)
def TG (E : Emb) (hp : T Blk) (nx : Nat) (args : List Sv) (vs : List Value) (bs : List Nat) (w : World) : Emb :=
 ⟨E.b, fun k j => if k = nx then (match args[j]? with
  | some s => if WM (BV hp s) = true then vs[j]? else none
  | none => none) else E.r k j, fun B o => zOr (sO E bs B) (w.cell? ⟨B, o, none⟩) (E.z B o), E.d, E.dl, E.m⟩
theorem sP {η : Env} {E : Emb} : ∀ {l : List Sv} {vs : List Value} {j : Nat} {s : Sv}, aB η E l = some vs → l[j]? = some s → ∃ v, vs[j]? = some v ∧ s.den η E = some v
 | a :: l, vs, j, s, h, hj => by
  obtain ⟨v, us, h1, h2, rfl⟩ := aG h
  cases j with
  | zero => cases hj; exact ⟨v, rfl, h1⟩
  | succ j =>
   obtain ⟨u, g1, g2⟩ := sP h2 (by simpa using hj)
   exact ⟨u, by simpa using g1, g2⟩
theorem tY {hp : T Blk} {s : Sv} {d : FD} {bs : List Nat} (h : BV hp s = some (d, bs)) : ∃ b m c sh, s = .one (.slice (some (b, 0)) m c) ∧ H6 hp 6 (.slice (some (b, 0)) m c) = some (sh, d, bs) ∧ b ∈ bs := by
 unfold BV at h
 split at h
 ·rename_i b m c
  split at h
  ·rename_i sh d' bs' hc
   cases h
   refine ⟨b, m, c, sh, rfl, hc, ?_⟩
   cases c with
   | known c => simp only [H6, H5, KW] at hc; cases hc
   | rest r =>
    simp only [H6] at hc
    split at hc
    ·rename_i e sz l hb
     cases hsz : Nat.beq sz 1 with
     | false => rw [hsz] at hc; cases hc
     | true =>
      rw [hsz] at hc
      simp only [cond_true] at hc
      split at hc
      ·rename_i x xs hx
       cases ha : xs.all (fun y => shZ 9 x.1 y.1) with
       | false => rw [ha] at hc; cases hc
       | true => rw [ha] at hc; cases hc; exact List.mem_cons_self ..
      ·cases hc
    ·cases hc
  ·cases h
 ·cases h

theorem TH {η : Env} {E : Emb} {hp : T Blk} {nx lo base : Nat} {w : World} (hH : aD η E hp nx lo base w) (args : List Sv) (vs : List Value) (bs : List Nat) : E.le (TG E hp nx args vs bs w) := by
 refine ⟨fun b x h => h, fun k j v h => ?_, fun B o v h => ?_, fun _ _ _ h => h⟩
 ·show (if k = nx then _ else E.r k j) = some v
  by_cases e : k = nx
  ·subst e; rw [hH.rfree _ (Nat.le_refl _)] at h; cases h
  ·rw [if_neg e]; exact h
 ·show zOr (sO E bs B) (w.cell? ⟨B, o, none⟩) (E.z B o) = some v
  rcases jL (sO E bs B) (w.cell? ⟨B, o, none⟩) (E.z B o) with ⟨_, e⟩ | ⟨_, e⟩
  ·rw [e]; exact hH.zw B o v h
  ·rw [e]; exact h
theorem H8 {η : Env} {E E' : Emb} {hp : T Blk} {nx lo base : Nat} {w : World} (hH : aD η E hp nx lo base w) (hle : E.le E') : ∀ {l : List Sv} {k : Nat} {vs : List Value}, aB η E l = some vs → (∀ j s, l[j]? = some s → WM (BV hp s) = true → E'.r nx (k + j) = vs[j]?) →
  (∀ b ∈ (dY hp nx k l).2, ∀ B K, E b = some (B, K) → ∀ o u, w.cell? ⟨B, o, none⟩ = some u → E'.z B o = some u) → aB η E' (dY hp nx k l).1 = some vs
 | [], k, vs, h, _, _ => by cases h; rfl
 | s :: l, k, vs, h, hr, hb => by
  obtain ⟨v, us, h1, h2, rfl⟩ := aG h
  have ih : (∀ b ∈ (dY hp nx (k + 1) l).2, ∀ B K, E b = some (B, K) → ∀ o u, w.cell? ⟨B, o, none⟩ = some u → E'.z B o = some u) → aB η E' (dY hp nx (k + 1) l).1 = some us := fun hb' =>
   H8 hH hle h2 (fun j s' hj hs => by
    have := hr (j + 1) s' (by simpa using hj) hs
    rw [show k + (j + 1) = k + 1 + j by omega] at this
    simpa using this) hb'
  simp only [dY] at hb ⊢
  cases hs : BV hp s with
  | none =>
   rw [hs] at hb
   simp only [aB, Sv.den_mono hle h1, ih hb]
  | some p =>
   obtain ⟨d, bs⟩ := p
   rw [hs] at hb
   simp only at hb ⊢
   obtain ⟨b, m, c, sh, rfl, hc, _⟩ := tY hs
   have hv : E'.r nx k = some v := by
    have := hr 0 _ rfl (by rw [hs]; rfl)
    simpa using this
   have hd : (Sc.slice (some (b, 0)) m c).den η E = some v := h1
   have := (wW hH hle.z hc hd).2 fun b' hb' => hb b' (List.mem_append_left _ hb')
   have hf : (Sv.one (.fz (.root nx k) d)).den η E' = some v := by
    show pH E' (.root nx k) d = some v
    exact aI.2 ⟨hv, this.2⟩
   simp only [aB, hf, ih fun b' hb' => hb b' (List.mem_append_right _ hb')]
theorem n5 {η : Env} {E : Emb} {hp : T Blk} {nx lo base : Nat} {w : World} (hH : aD η E hp nx lo base w) : ∀ {l : List Sv} {k : Nat} {vs : List Value}, aB η E l = some vs → ∀ b ∈ (dY hp nx k l).2, ∃ x, hp.get b = some x
 | [], k, vs, h, b, hb => by cases hb
 | s :: l, k, vs, h, b, hb => by
  obtain ⟨v, us, h1, h2, rfl⟩ := aG h
  simp only [dY] at hb
  cases hs : BV hp s with
  | none => rw [hs] at hb; exact n5 hH h2 b hb
  | some p =>
   obtain ⟨d, bs⟩ := p
   rw [hs] at hb
   have hb1 : b ∈ bs ++ (dY hp nx (k + 1) l).2 := hb
   rcases List.mem_append.1 hb1 with hb2 | hb2
   ·obtain ⟨b0, m, c, sh, rfl, hc, _⟩ := tY hs
    have hd : (Sc.slice (some (b0, 0)) m c).den η E = some v := h1
    exact (wW hH (fun _ _ _ h => h) hc hd).1 b hb2
   ·exact n5 hH h2 b hb2
theorem H9 {hp : T Blk} {nx : Nat} : ∀ {l : List Sv} {k j : Nat} {s : Sv} {d : FD} {bs : List Nat}, l[j]? = some s → BV hp s = some (d, bs) → ∀ b ∈ bs, b ∈ (dY hp nx k l).2
 | a :: l, k, 0, s, d, bs, h, hs, b, hb => by
  cases h
  simp only [dY, hs]
  exact List.mem_append_left _ hb
 | a :: l, k, j + 1, s, d, bs, h, hs, b, hb => by
  have := H9 (nx := nx) (k := k + 1) (show l[j]? = some s by simpa using h) hs b hb
  simp only [dY]
  split
  ·exact List.mem_append_right _ this
  ·exact this
/-- The frozen memory. -/
theorem TJ {η : Env} {E : Emb} {hp : T Blk} {nx lo base : Nat} {w : World} (hH : aD η E hp nx lo base w) {args : List Sv} {vs : List Value} (hv : aB η E args = some vs) (hlo : lo ≤ nx) (hnx : nx + 1 ≤ 65000) (hbl : ∀ b ∈ (dY hp nx 0 args).2, lo ≤ b) :
  aD η (TG E hp nx args vs (dY hp nx 0 args).2 w) (zJ hp (dY hp nx 0 args).2) (nx + 1) lo base w ∧ aH E (TG E hp nx args vs (dY hp nx 0 args).2 w) nx ∧ aB η (TG E hp nx args vs (dY hp nx 0 args).2 w) (dY hp nx 0 args).1 = some vs := by
 have hle := TH hH args vs (dY hp nx 0 args).2
 have hsm : ∀ b ∈ (dY hp nx 0 args).2, b < 65535 := fun b hb => by
  obtain ⟨x, hx⟩ := n5 hH hv b hb
  have := hH.dom b x hx
  omega
 have hget : ∀ i x, (zJ hp (dY hp nx 0 args).2).get i = some x → hp.get i = some x ∧ i ∉ (dY hp nx 0 args).2 := fun i x h => C2 hsm h
 refine ⟨⟨fun i b hi => Nat.lt_succ_of_lt (hH.dom i b (hget i b hi).1), fun i b hi => ?_, fun i j b c B C K L hne hi hj => hH.inj i j b c B C K L hne (hget i b hi).1 (hget j c hj).1, hH.hi, hH.top, hH.bot, fun i hi => hH.free i (by omega), hnx, fun B o v hz => ?_, fun i b B K hi ho hE o => ?_, fun k hk j => ?_, fun D o hD => ⟨(hH.dk D o hD).1, (hH.dk D o hD).2.1, (hH.dk D o hD).2.2.1.of (fun j v hz => by
  have hz : zOr (sO E (dY hp nx 0 args).2 D) (w.cell? ⟨D, j, none⟩) (E.z D j) = some v := hz
  rcases jL (sO E (dY hp nx 0 args).2 D) (w.cell? ⟨D, j, none⟩) (E.z D j) with ⟨hex, _⟩ | ⟨_, e⟩
  ·obtain ⟨b', _, K', hE'⟩ := hex
   exact absurd hE' ((hH.dk D o hD).2.2.2 b' K')
  ·rw [e] at hz; exact hz) (fun q i L h => ⟨q, i, L, h⟩), (hH.dk D o hD).2.2.2⟩, ⟨fun k j v hk hr => ?_, fun B o v hB hz => ?_⟩, ?_⟩, ⟨fun _ _ => rfl, fun k hk j => ?_, hle.z, fun _ _ h => h, rfl, fun _ _ _ => rfl⟩, ?_⟩
 ·obtain ⟨B, K, h1, h2⟩ := hH.cell i b (hget i b hi).1
  exact ⟨B, K, h1, h2.mono hle⟩
 ·have hz : zOr (sO E (dY hp nx 0 args).2 B) (w.cell? ⟨B, o, none⟩) (E.z B o) = some v := hz
  rcases jL (sO E (dY hp nx 0 args).2 B) (w.cell? ⟨B, o, none⟩) (E.z B o) with ⟨_, e⟩ | ⟨_, e⟩
  ·rw [e] at hz; exact hz
  ·rw [e] at hz; exact hH.zw B o v hz
 ·show zOr (sO E (dY hp nx 0 args).2 B) (w.cell? ⟨B, o, none⟩) (E.z B o) = none
  obtain ⟨g1, g2⟩ := hget i b hi
  rcases jL (sO E (dY hp nx 0 args).2 B) (w.cell? ⟨B, o, none⟩) (E.z B o) with ⟨hex, e⟩ | ⟨_, e⟩
  ·obtain ⟨b', hb', K', hE'⟩ := hex
   obtain ⟨x, hx⟩ := n5 hH hv b' hb'
   exact absurd rfl (hH.inj i b' b x B B K K' (fun e => g2 (by rw [e]; exact hb')) g1 hx hE hE')
  ·rw [e]; exact hH.zd i b B K g1 ho hE o
 ·show (if k = nx then _ else E.r k j) = none
  rw [if_neg (by omega)]
  exact hH.rfree k (by omega) j
 ·have hr : (if k = nx then (match args[j]? with
   | some s => if WM (BV hp s) = true then vs[j]? else none
   | none => none) else E.r k j) = some v := hr
  split at hr
  ·split at hr
   ·rename_i s hs
    split at hr
    ·rename_i hf
     cases hfs : BV hp s with
     | none => rw [hfs] at hf; cases hf
     | some p =>
      obtain ⟨d, bs⟩ := p
      obtain ⟨b, m, c, sh, rfl, hc, hb⟩ := tY hfs
      obtain ⟨v', q1, q2⟩ := sP hv hs
      rw [hr] at q1; cases q1
      obtain ⟨B, K, m', e1, e2, _⟩ := eQ q2
      subst e2
      intro a n c' e hn
      cases e
      exact hH.hi b B K (hbl b (H9 hs hfs b hb)) e1
    ·cases hr
   ·cases hr
  ·exact hH.rn.1 k j v hk hr
 ·have hz : zOr (sO E (dY hp nx 0 args).2 B) (w.cell? ⟨B, o, none⟩) (E.z B o) = some v := hz
  rcases jL (sO E (dY hp nx 0 args).2 B) (w.cell? ⟨B, o, none⟩) (E.z B o) with ⟨hex, e⟩ | ⟨_, e⟩
  ·obtain ⟨b, hb, K, hE⟩ := hex
   have := hH.hi b B K (hbl b hb) hE
   omega
  ·rw [e] at hz; exact hH.rn.2 B o v hB hz
 ·refine hH.mt.keep (fun _ _ => rfl) (Nat.le_succ _) hH.mt.hi (Nat.le_refl _) (fun b q e s n x m f hg => ⟨(hget _ _ hg).1, rfl⟩) hle.z (fun _ _ => rfl) (fun _ _ => rfl) (fun B hB o => ?_) (fun B hB j c K hj hE => hH.mt.own B hB j c K (hget _ _ hj).1 hE)
  show zOr (sO E (dY hp nx 0 args).2 B) (w.cell? ⟨B, o, none⟩) (E.z B o) = none
  rcases jL (sO E (dY hp nx 0 args).2 B) (w.cell? ⟨B, o, none⟩) (E.z B o) with ⟨hex, e⟩ | ⟨_, e⟩
  ·obtain ⟨b', hb', K', hE'⟩ := hex
   obtain ⟨x, hx⟩ := n5 hH hv b' hb'
   exact (hH.mt.own B hB b' x K' hx hE').elim
  ·rw [e]; exact hH.mt.z B hB o
 ·show (if k = nx then _ else E.r k j) = E.r k j
  rw [if_neg (by omega)]
 ·refine H8 hH hle hv (fun j s hj hs => ?_) (fun b hb B K hE o u hu => ?_)
  ·show (if nx = nx then _ else _) = _
   rw [if_pos rfl, Nat.zero_add, hj]
   simp only [hs, if_true]
  ·show zOr (sO E (dY hp nx 0 args).2 B) (w.cell? ⟨B, o, none⟩) (E.z B o) = some u
   rw [NB ⟨b, hb, K, hE⟩]
   exact hu

def T3 (C : Cx) (f : FuncId) : Bool :=
 match C.sm.get f, C.gs.get f with
 | none, none => false
 | _, _ => true
def YU : List Nat → Bool
 | [] => true
 | _ => false
def LB (C : Cx) (ih : FI → List Sv → St → aA (Sv × St)) (f : FuncId) (args : List Sv) (st : St) : aA (Sv × St) :=
 bif T3 C f && (!YU (dY st.hp st.nx 0 args).2 && ((dY st.hp st.nx 0 args).2.all (fun b => Nat.ble st.lo b) && Nat.ble (st.nx + 1) 65000)) then
  rU C ih f (dY st.hp st.nx 0 args).1 { st with hp := zJ st.hp (dY st.hp st.nx 0 args).2, nx := st.nx + 1 }
 else rU C ih f args st
theorem LC {C : Cx} {P : Program} {η : Env} (hC : C.Ok P η) {ih : FI → List Sv → St → aA (Sv × St)} (hih : eR P η ih) {f : FuncId} {args : List Sv} {st : St} {r : Sv × St} (hpc : st.pc.holds η) (hlo : st.lo ≤ st.nx)
  (h : (LB C ih f args st).at_ η = some r) :
  r.2.lo = st.lo ∧ r.2.tm = st.tm ∧ ∀ E base w0 w vs, aD η E st.hp st.nx st.lo base w → Below base w0 w → aB η E args = some vs →
   (∃ v E', r.1.den η E' = some v ∧ (callFunc f vs.toArray).run P w = .ok (.value v) w ∧ aH E E' st.nx ∧ aD η E' r.2.hp r.2.nx st.lo base w ∧ r.2.pc.holds η ∧ st.nx ≤ r.2.nx) ∨
   ((callFunc f vs.toArray).run P w = .ok (.enter f vs.toArray) w ∧ Calls P f vs.toArray w fun e w' => ∃ v E', e = .returned v ∧ r.1.den η E' = some v ∧ aH E E' st.nx ∧ aD η E' r.2.hp r.2.nx st.lo base w' ∧ Below base w0 w' ∧ r.2.pc.holds η ∧ st.nx ≤ r.2.nx) := by
 unfold LB at h
 cases hc : (T3 C f && (!YU (dY st.hp st.nx 0 args).2 && ((dY st.hp st.nx 0 args).2.all (fun b => Nat.ble st.lo b) && Nat.ble (st.nx + 1) 65000))) with
 | false =>
  rw [hc] at h
  obtain ⟨h1, h2, h3⟩ := rV hC hih hpc hlo h
  refine ⟨h1, h2, fun E base w0 w vs hH hB hv => ?_⟩
  rcases h3 E base w0 w vs hH hB hv with ⟨v, e1, e2, e3, e4, e5⟩ | h3
  ·exact .inl ⟨v, E, e1, e2, aH.refl _ _, by rw [e3, e4]; exact hH, e5, by omega⟩
  ·exact .inr h3
 | true =>
  rw [hc] at h
  simp only [Bool.and_eq_true] at hc
  obtain ⟨_, _, hall, hnx⟩ := hc
  have hnx := Nat.le_of_ble_eq_true hnx
  obtain ⟨h1, h2, h3⟩ := rV (st := { st with hp := zJ st.hp (dY st.hp st.nx 0 args).2, nx := st.nx + 1 }) hC hih hpc (by show st.lo ≤ st.nx + 1; omega) h
  refine ⟨h1, h2, fun E base w0 w vs hH hB hv => ?_⟩
  obtain ⟨g1, g2, g3⟩ := TJ hH hv hlo hnx fun b hb => Nat.le_of_ble_eq_true (List.all_eq_true.1 hall b hb)
  rcases h3 _ base w0 w vs g1 hB g3 with ⟨v, e1, e2, e3, e4, e5⟩ | ⟨e1, e2⟩
  ·exact .inl ⟨v, _, e1, e2, g2, by rw [e3, e4]; exact g1, e5, by rw [e4]; exact Nat.le_succ _⟩
  ·refine .inr ⟨e1, e2.mono ?_⟩
   rintro e w' ⟨v, E', q1, q2, q3, q4, q5, q6, q7⟩
   exact ⟨v, E', q1, q2, g2.trans (q3.less (Nat.le_succ _)) (Nat.le_refl _), q4, q5, q6, Nat.le_trans (Nat.le_succ _) q7⟩

end
end Go.Ex

