/-
 That the executor of regions that draw their order is right.
-/
import Derived.Test.YtdpabnfcfakjeaaEx20

namespace Go.Ex
open Go Go.RowKit
noncomputable section

theorem bJ {p : Nat → Bool} : ∀ {m : Nat}, aJ p m = true → ∀ i, i < m → p i = true
 | 0, _, i, hi => absurd hi (Nat.not_lt_zero _)
 | m + 1, h, i, hi => by
  simp only [aJ, Bool.and_eq_true] at h
  rcases Nat.lt_or_ge i m with hlt | hge
  ·exact bJ h.2 i hlt
  ·have : i = m := by omega
   subst this; exact h.1
theorem uY {p : Nat → Bool} : ∀ {m : Nat}, DX p m = true → ∃ i, i < m ∧ p i = true
 | 0, h => by cases h
 | m + 1, h => by
  simp only [DX, Bool.or_eq_true] at h
  rcases h with h | h
  ·exact ⟨m, Nat.lt_succ_self _, h⟩
  ·obtain ⟨i, hi, hp⟩ := uY h; exact ⟨i, by omega, hp⟩
theorem kH {α : Type} : ∀ l : List α, iE l = l.length
 | [] => rfl
 | _ :: l => by simp [iE, kH l]
theorem GU {α : Type} : ∀ (n : Nat) (l : List α), MN n l = l.drop n
 | 0, l => by cases l <;> rfl
 | n + 1, [] => rfl
 | n + 1, x :: l => by simp [MN, GU n l]
theorem yB {o : Option Nat} {i : Nat} (h : PO o i = true) : o = some i := by
 cases o with
 | none => cases h
 | some j => rw [Nat.eq_of_beq_eq_true h]

theorem iH {ops : Array Oper} {j i : Nat} (h : p0 ops.toList j i = true) : Region.waitsFor .any ops j i = true := by
 unfold p0 at h
 split at h
 ·rename_i o ho
  rw [cI, Array.getElem?_toList] at ho
  obtain ⟨k, hk, hki⟩ := List.any_eq_true.1 h
  have := Nat.eq_of_beq_eq_true hki; subst this
  obtain ⟨e, he, hb, hon⟩ := dI.1 hk
  unfold Region.waitsFor
  simp only [ho]
  exact Array.any_eq_true'.2 ⟨e, he, by simp [hb, hon]⟩
 ·cases h

theorem mG {ops : Array Oper} {n : Nat} (hn : n ≤ ops.size) (h : pL ops.toList n (iE ops.toList) = true) : jK ops n := by
 have hm : iE ops.toList = ops.size := by rw [kH]; simp
 rw [hm] at h
 simp only [pL, Bool.and_eq_true, Bool.or_eq_true] at h
 obtain ⟨⟨⟨h1, h6⟩, h7⟩, h2⟩ := h
 have own : ∀ k ok d, k < n → ops[k]? = some ok → ok.dst = some d → xV d 0 ops.toList = some k := by
  intro k ok d hk hok hd
  have := bJ h1 k hk
  rw [cI, Array.getElem?_toList, hok] at this
  simp only [hd, Bool.and_eq_true] at this
  exact yB this.1
 refine ⟨?_, ?_, hn, h6, fun i hi => o0.1 (bJ h7 i hi), ?_⟩
 ·intro i j oi oj d hi hj hoi hoj hdi hdj
  exact Option.some.inj ((own i oi d hi hoi hdi).symm.trans (own j oj d hj hoj hdj))
 ·intro i o t hi ho ht k ok hk hok hdk
  have := bJ h1 i hi
  rw [cI, Array.getElem?_toList, ho] at this
  simp only [Bool.and_eq_true] at this
  have := List.all_eq_true.1 this.2 t ht
  rw [own k ok t hk hok hdk] at this
  simp only [Bool.or_eq_true] at this
  rcases this with ((h | h) | h) | h
  ·have := Nat.le_of_ble_eq_true h; omega
  ·obtain ⟨o', ho', e, he, hb, hon⟩ := Region.waitsFor_spec (iH h)
   have : o' = o := Option.some.inj (ho'.symm.trans ho)
   subst this
   exact .inl (dI.2 ⟨e, he, hb, hon⟩)
  ·obtain ⟨o', ho', e, he, hb, hon⟩ := Region.waitsFor_spec (iH h)
   have : o' = ok := Option.some.inj (ho'.symm.trans hok)
   subst this
   exact .inr (.inl (dI.2 ⟨e, he, hb, hon⟩))
  ·exact .inr (.inr (Nat.eq_of_beq_eq_true h))
 ·rcases h2 with h2 | ⟨⟨⟨h2, h3⟩, h4⟩, h5⟩
  ·exact .inl (Nat.eq_of_beq_eq_true h2)
  ·refine .inr ⟨?_, ?_, Nat.le_of_ble_eq_true h4, ?_⟩
   ·unfold Region.sinkB
    refine List.all_eq_true.2 fun i hi => ?_
    have hi := List.mem_range.1 hi
    obtain ⟨j, hj, hj2⟩ := uY (bJ h2 i hi)
    simp only [Bool.and_eq_true] at hj2
    refine List.any_eq_true.2 ⟨j, List.mem_range.2 hj, ?_⟩
    simp only [Bool.and_eq_true, decide_eq_true_eq]
    exact ⟨Nat.le_of_ble_eq_true hj2.1, iH hj2.2⟩
   ·unfold Region.chainB
    refine List.all_eq_true.2 fun t ht => ?_
    have := bJ h3 t (List.mem_range.1 ht)
    simp only [Bool.or_eq_true, decide_eq_true_eq] at this ⊢
    exact this.imp Nat.le_of_ble_eq_true iH
   ·intro t o hnt ho j hj
    have := bJ h5 t (Array.getElem?_eq_some_iff.1 ho).1
    rw [cI, Array.getElem?_toList, ho] at this
    simp only [Bool.or_eq_true] at this
    rcases this with h | h
    ·have : t < n := Nat.le_of_ble_eq_true h; omega
    ·exact Nat.le_of_ble_eq_true (List.all_eq_true.1 h j hj)

theorem p8 (p : Oper → Bool) : ∀ l : List Oper, jC p l ≤ l.length
 | [] => Nat.le_refl _
 | o :: l => by
  simp only [jC, List.length_cons]
  cases p o with
  | true => simp
  | false => have := p8 p l; simp; omega
theorem J8 {ops : Array Oper} {n : Nat} (h : PP ops.toList = some n) : jK ops n := by
 unfold PP at h
 cases h1 : pL ops.toList (jC xU ops.toList) (iE ops.toList) with
 | true =>
  rw [h1] at h; cases h
  exact mG (by have := p8 xU ops.toList; simpa using this) h1
 | false =>
  rw [h1] at h
  cases h2 : pL ops.toList (jC wJ ops.toList) (iE ops.toList) with
  | true =>
   rw [h2] at h; cases h
   exact mG (by have := p8 wJ ops.toList; simpa using this) h2
  | false =>
   rw [h2] at h
   cases h3 : pL ops.toList (iE ops.toList) (iE ops.toList) with
   | true =>
    rw [h3] at h; cases h
    exact mG (by rw [kH]; simp) h3
   | false => rw [h3] at h; cases h

theorem OC {C : Cx} {ops : Array Oper} {n : Nat} (h : SJ C ops.toList = some n) : jK ops n := by
 unfold SJ at h
 cases h1 : (xW C ops.toList && pL ops.toList (iE ops.toList - 1) (iE ops.toList)) with
 | true =>
  rw [h1] at h; cases h
  simp only [Bool.and_eq_true] at h1
  exact mG (by rw [kH]; simp) h1.2
 | false =>
  rw [h1] at h
  exact J8 h
theorem CD {hp : T Blk} : ∀ {wl : List Wr}, (∀ r ∈ wl, r.x < 65535) → ∀ x b, (GO hp wl).get x = some b → (∃ r ∈ wl, r.x = x ∧ r.c = b) ∨ (hp.get x = some b ∧ ∀ r ∈ wl, r.x ≠ x)
 | [], _, x, b, h => .inr ⟨h, fun _ h => by cases h⟩
 | r :: wl, hl, x, b, h => by
  simp only [GO] at h
  by_cases hrx : r.x = x
  ·subst hrx
   rw [T.get_set_same _ _ _ (hl r (List.mem_cons_self ..))] at h
   cases h; exact .inl ⟨r, List.mem_cons_self .., rfl, rfl⟩
  ·rw [T.get_set_ne _ _ _ _ hrx] at h
   rcases CD (fun q hq => hl q (List.mem_cons_of_mem _ hq)) x b h with ⟨q, hq, e⟩ | ⟨h, hno⟩
   ·exact .inl ⟨q, List.mem_cons_of_mem _ hq, e⟩
   ·refine .inr ⟨h, fun q hq => ?_⟩
    cases hq with
    | head => exact hrx
    | tail _ hq => exact hno q hq

theorem nP {bk : T Blk} {nx : Nat} : ∀ {n : Nat}, ∀ p ∈ mE bk nx n, ∃ k b, bk.get k = some b ∧ p = (nx + k, b)
 | 0, p, hp => by cases hp
 | n + 1, p, hp => by
  simp only [mE] at hp
  split at hp
  ·rename_i b hb
   cases hp with
   | head => exact ⟨n, b, hb, rfl⟩
   | tail _ hp => exact nP p hp
  ·exact nP p hp

theorem CE {C : Cx} {P : Program} {η : Env} (hC : C.Ok P η) {ih : FI → List Sv → St → aA (Sv × St)} (hih : eR P η ih) {nt : Nat} {ops : Array Oper} {st st' : St} (h : (MO C ih nt ops.toList st).at_ η = some st') {E : Emb} {base : Nat} {w0 : World} {a : Act} {w : World} (hS : cR η E nt base w0 st a w) {Q : Exit → Act → World → Prop}
  (hK : ∀ E' a' w', aH E E' st.nx → st.nx ≤ st'.nx → st'.lo = st.lo → cR η E' nt base w0 st' a' w' → Q .normal a' w') (ro : Option Nat) (m : Nat) : wpAnyIn (FW ro) m P .any ops Q ops.size (Array.replicate ops.size false) a w := by
 unfold MO at h
 split at h
 ·rename_i n hcut
  have hF := OC hcut
  cases hb : Nat.ble (st.nx + n) 65000 with
  | false => rw [hb] at h; cases h
  | true =>
   rw [hb] at h
   have hlim := Nat.le_of_ble_eq_true hb
   obtain ⟨⟨tm, bk, wl, pc⟩, h1, h2⟩ := aA.at_bind h
   have hd : aD η E st.hp st.nx st.lo base w := hS.hr
   have hH0 : aD η E st.hp (st.nx + n) st.lo base w := ⟨fun i b h => Nat.lt_of_lt_of_le (hd.dom i b h) (Nat.le_add_right _ _), hd.cell, hd.inj, hd.hi, hd.top, hd.bot, (fun i hi => hd.free i (by omega)), hlim, hd.zw, hd.zd, (fun k hk => hd.rfree k (by omega)), hd.dk, hd.rn, hd.mt.keep (fun _ _ => rfl) (Nat.le_add_right _ _) hd.mt.hi (Nat.le_refl _) (fun _ _ _ _ _ _ _ _ hg => ⟨hg, rfl⟩) (fun _ _ _ h => h) (fun _ _ => rfl) (fun _ _ => rfl) hd.mt.z hd.mt.own⟩
   have hI0 : ∀ (V : bG) (L : Nat → Prop), (∀ j, L j → False) → Inv η ops E st.nx (st.nx + n) st.lo base nt w0 st.tm st.hp V L E a w := fun V L hL =>
    ⟨aH.refl _ _, fun t s ht _ => hS.fr t s ht, fun j _ _ hj => (hL j hj).elim, ⟨st.hp, fun _ _ h _ => h, fun j _ hj => (hL j hj).elim, fun j _ _ hj => (hL j hj).elim, hH0⟩, fun j _ _ => ⟨hd.free _ (by omega), hd.rfree _ (by omega)⟩, hS.sz, hS.df, hS.bl⟩
   obtain ⟨hpc, V, done, hR, hsub⟩ := yA (E0 := E) (base := base) (w0 := w0) hC hih hS.nt rfl hlim hF (CA n ops.toList) [] ⟨fun _ => none, fun _ => none, fun _ => none⟩ st.tm .nil [] st.pc tm bk wl pc hF.ord h1 hS.pc
    ⟨fun t s ht => .inr ⟨ht, fun k ok hk => (by cases hk)⟩, fun k b hk => (by simp [T.get_nil] at hk), fun r hr => (by cases hr), fun k x c hk => (by cases hk), fun i hi => (by cases hi), fun i o hi => (by cases hi), fun i hi => (by cases hi)⟩
    ⟨E, a, w, hI0 _ _ fun j hj => by cases hj⟩
   have hall : ∀ i, i < n → i ∈ done := fun i hi => hsub i (.inr (hF.all i hi))
   refine SO (E0 := E) (top := st.nx + n) (base := base) (nt := nt) (n := n) (w0 := w0) hC hih rfl hF hR hall ?_ ops.size _ E a _ ?_ ?_ (hI0 _ _ ?_)
   ·intro listed E1 a1 w1 fuel hinv hlist hfu hI
    obtain ⟨hp, hp1, hp2, hp3, hH⟩ := hI.hp
    have hSt : cR η E1 nt base w0 ⟨tm, GO (f7 st.hp (bif jV ops.toList || rY ops.toList then mE bk st.nx n else [])) wl, st.nx + n, st.lo, pc⟩ a1 w1 := by
     refine ⟨fun t s ht => ?_, hI.sz, hS.nt, hI.df.trans (congrArg Fix.l hI.ag.dl.symm), ?_, hI.bl, Nat.le_trans hS.lo (Nat.le_add_right _ _), hpc⟩
     ·rcases hR.tm t s ht with ⟨k, ok, hk, hok, hdk, hVk⟩ | ⟨h0, hno⟩
      ·obtain ⟨s', v, e1, e2, e3⟩ := hI.rc k ok t (hR.lt k hk) hok hdk
       rw [hVk] at e1; cases e1
       exact ⟨v, e2, e3⟩
      ·exact hI.old t s h0 fun k ok hk hok => hno k ok (hall k hk) hok
     ·refine hH.sub fun x b hx => ?_
      rcases CD (fun r hr => (hR.wk r hr).2.2) x b hx with ⟨r, hr, rfl, rfl⟩ | ⟨hx, hno⟩
      ·obtain ⟨q1, q2, _⟩ := hR.wk r hr
       exact hp3 r.k r.x r.c (hR.lt _ q1) q2
      ·have hno' : ∀ k c, k < n → V.w k ≠ some (x, c) := fun k c hk hwk => by
        obtain ⟨_, r, hr, _, hrx, _⟩ := hR.wr k x c hwk
        exact hno r hr hrx
       have hmem : ∀ p ∈ (bif jV ops.toList || rY ops.toList then mE bk st.nx n else []), ∃ k b, bk.get k = some b ∧ p = (st.nx + k, b) := fun p hp' => by
        cases hc : (jV ops.toList || rY ops.toList) with
        | true => rw [hc] at hp'; exact nP p hp'
        | false => rw [hc] at hp'; cases hp'
       rcases tJ (fun p hp' => by
        obtain ⟨k, b', hk, rfl⟩ := hmem p hp'
        have := hR.lt k (hR.bk k b' hk).1
        simp only; omega) x b hx with ⟨p, hp', hpe⟩ | h
       ·obtain ⟨k, b', hk, hpe'⟩ := hmem p hp'
        rw [hpe] at hpe'
        cases hpe'
        obtain ⟨q1, q2⟩ := hR.bk k b hk
        exact hp2 k b (hR.lt k q1) q2 hno'
       ·exact hp1 x b h hno'
    simp only at h2
    rw [GU] at h2
    refine PU hC hih hF Q (ops.toList.drop n) n _ st' listed fuel (fun j => by simp [List.getElem?_drop]) (by have := hF.le; simp; omega) (Nat.le_refl _) (by simp; omega) hinv.size ?_ h2 E1 base w0 a1 w1 hSt ?_
    ·intro j hj
     refine ⟨fun h => ?_, hlist j⟩
     rcases Nat.lt_or_ge j n with hlt | hge
     ·exact hlt
     ·rw [hinv.tail j hge hj] at h; cases h
    ·intro E' a' w' hA hn' hlo' hS'
     exact hK E' a' w' (hI.ag.trans hA (Nat.le_add_right _ _)) (Nat.le_trans (Nat.le_add_right _ _) hn') hlo' hS'
   ·exact ⟨by simp, fun j oj _ hl => (by rw [getD_replicate_false] at hl; cases hl), fun t _ ht => getD_in (by simpa using ht) (getD_replicate_false _ _)⟩
   ·have : ((List.range n).countP fun j => !(Array.replicate ops.size false).getD j true) ≤ n := by
     refine Nat.le_trans List.countP_le_length ?_
     simp
    have := hF.le
    omega
   ·intro j hj
    have h1 := hj.2
    have := hF.le
    have hlt : j < ops.size := by omega
    simp [hlt] at h1
 ·cases h

/-! ## Operations that look at slots alone -/
section
variable {P : Program} {ops : Array Oper} {Q : Exit → Act → World → Prop}
/-- What it yields does not hang on the memory. -/
def r9 (P : Program) (o : Oper) (v : Value) (a : Act) : Prop := ∀ w, (execOp a.eval o).run P w = .ok (.value v) w
theorem J9 {C : Cx} {η : Env} {E : Emb} (hC : C.Ok P η) {hp tm : T _} {a : Act} {pc pc' : PC} {o : Oper} {sv : Sv} (hp0 : DY o.op = true) (hx : ∀ x ∈ o.op.operands, mH η E tm a x) (h : (qop C hp tm pc o.op).at_ η = some (sv, pc')) :
  pc' = pc ∧ ∃ v, sv.den η E = some v ∧ r9 P o v a := by
 obtain ⟨dst, op, type, pos, after, guard⟩ := o
 simp only at hx h hp0
 unfold DY at hp0
 split at hp0
 ·rename_i x
  simp only [qop] at h
  obtain ⟨h1, rfl⟩ := cY h
  exact ⟨rfl, _, hx x (by simp [Op.operands]) _ h1, fun _ => rfl⟩
 ·rename_i x
  simp only [qop] at h
  split at h
  ·rename_i c hs
   have e := hx x (by simp [Op.operands]) _ hs
   simp only [aA.at_, Option.some.injEq, Prod.mk.injEq] at h
   obtain ⟨rfl, rfl⟩ := h
   obtain ⟨b, o⟩ := c
   obtain ⟨B, K, _, ev⟩ := jG e
   exact ⟨rfl, _, e, fun _ => by simp [execOp, ev]⟩
  ·rename_i f cs hs
   have e := hx x (by simp [Op.operands]) _ hs
   simp only [aA.at_, Option.some.injEq, Prod.mk.injEq] at h
   obtain ⟨rfl, rfl⟩ := h
   refine ⟨rfl, _, e, fun _ => ?_⟩
   simp only [Sv.den, Sc.den, Option.map_eq_some_iff] at e
   obtain ⟨l, _, ev⟩ := e
   simp [execOp, ← ev]
  ·cases h
 ·rename_i t x f
  simp only [qop] at h
  split at h
  ·rename_i s hs
   rcases tC h with ⟨ob, h1, hb, rfl⟩ | h
   ·simp only [Option.map_eq_some_iff, Prod.mk.injEq] at h1
    obtain ⟨s', h1, rfl, rfl⟩ := h1
    obtain ⟨v, h2, h3⟩ := pO hC h1 (hx x (by simp [Op.operands]) _ hs)
    exact ⟨rfl, v, h2, fun w => dF (h3 w)⟩
   obtain ⟨h1, rfl⟩ := cY h
   obtain ⟨v, h2, h3⟩ := nR hC h1 (hx x (by simp [Op.operands]) _ hs)
   exact ⟨rfl, v, h2, fun w => dF (h3 w)⟩
  ·cases h
 ·cases hp0
theorem uZ {o : Oper} (h : jD o.op = true) (cs b) : o.op ≠ .select cs b := fun e => by rw [e] at h; cases h
theorem u0 {o : Oper} (h : jD o.op = true) (c) : o.op ≠ .defer c := fun e => by rw [e] at h; cases h
theorem PV {ro : Option Nat} {m j : Nat} {oi oj : Oper} {v : Value} (hj : ops[j]? = some oj) (h1 : ∀ d, oi.dst = some d → d ∉ oj.looksAt ops) (h2 : ∀ d, oi.dst = some d → oj.dst ≠ some d) (h3 : ∀ d, oj.dst = some d → d ∉ oi.looksAt ops)
  (hsi : jD oi.op = true) (hsj : jD oj.op = true) (hQ : ∀ c a w, ¬ Q (.panic c) a w) {K : Act → World → Prop} {a : Act} {w : World} (hy : r9 P oi v a) (h : wpOpIn (FW ro) m P ops Q j K (a.put oi.dst v) w) :
  wpOpIn (FW ro) m P ops Q j (fun a' w' => r9 P oi v a' ∧ K (a'.put oi.dst v) w') a w := by
 have keep : ∀ (a : Act), r9 P oi v a → ∀ u, r9 P oi v (a.put oj.dst u) := fun a hy u w => by rw [execOp_put oi (uZ hsi) a oj.dst u h3]; exact hy w
 have nX : ∀ d, r9 P oi v { a with defers := d :: a.defers } := fun d => hy
 unfold wpOpIn at *
 simp only [hj] at *
 rw [wanted_put oj a oi.dst v h1] at h
 split
 ·rename_i hw
  simp only [hw, if_true] at h
  unfold Oper.wpIn at *
  refine ⟨fun _ _ => trivial, ?_⟩
  have h := h.2
  rw [Oper.semAt_eq _ _ _ (u0 hsj), execOp_put oj (uZ hsj) a oi.dst v h1] at h
  rw [Oper.semAt_eq _ _ _ (u0 hsj)]
  generalize (execOp a.eval oj).run P w = r at *
  cases r with
  | ok x w' =>
   cases x <;> simp only [Oper.uponIn] at h ⊢
   case value u => exact ⟨keep a hy u, by rw [← Act.put_comm a v u h2]; exact h⟩
   case skip => exact ⟨keep a hy _, by rw [← Act.put_comm a v undef h2]; exact h⟩
   case defer d =>
    refine ⟨keep _ (nX d) _, ?_⟩
    rw [← Act.put_comm _ v undef h2, ← Act.put_defers]
    exact h
   case enter f args =>
    refine ⟨h.1, CallsIn.mono h.2 fun e w'' he => ?_⟩
    cases e with
    | returned u => exact ⟨keep a hy u, by rw [← Act.put_comm a v u h2]; exact he⟩
    | panicked c => exact absurd he (hQ _ _ _)
    | outgrown => exact he
   case row row args => exact ⟨h.1, RowsIn.mono h.2 fun u w'' he => ⟨keep a hy u, by rw [← Act.put_comm a v u h2]; exact he⟩⟩
   case round l f tmps assign body =>
    refine ⟨h.1, RoundIn.mono h.2 fun e w'' he => ?_⟩
    cases e with
    | returned u => exact ⟨keep a hy u, by rw [← Act.put_comm a v u h2]; exact he⟩
    | panicked c => exact absurd he (hQ _ _ _)
    | outgrown => exact he
  | halt x w' =>
   cases x <;> simp only [Oper.uponIn] at h ⊢
   case panic u => exact absurd h (hQ _ _ _)
 ·rename_i hw
  simp only [hw] at h
  exact ⟨fun _ _ => trivial, keep a hy _, by rw [← Act.put_comm a v undef h2]; exact h.2⟩
def KA (ops : Array Oper) (oi oj : Oper) : Prop := (∀ d, oi.dst = some d → d ∉ oj.looksAt ops) ∧ (∀ d, oi.dst = some d → oj.dst ≠ some d) ∧ ∀ d, oj.dst = some d → d ∉ oi.looksAt ops
theorem r9.opIn {ro : Option Nat} {m i : Nat} {oi : Oper} {v : Value} {a : Act} {w : World} {K : Act → World → Prop} (hi : ops[i]? = some oi) (hg : oi.guard = none) (hp : jD oi.op = true) (hy : r9 P oi v a) (h : K (a.put oi.dst v) w) : wpOpIn (FW ro) m P ops Q i K a w := by
 unfold wpOpIn
 simp only [hi, Region.wanted, hg, if_true]
 exact eN (hy w) h
theorem OD {ro : Option Nat} {m i : Nat} {oi : Oper} {v : Value} (hi : ops[i]? = some oi) (hpl : ∀ (j : Nat) (o : Oper), ops[j]? = some o → jD o.op = true) (hg : oi.guard = none) (hQ : ∀ c a w, ¬ Q (.panic c) a w) :
  ∀ (fuel : Nat) (listed : Array Bool) (a : Act) (w : World), (∀ j oj, ops[j]? = some oj → j ≠ i → listed.getD j true = false → i ∉ cZ oj → KA ops oi oj) → i ∈ Region.ready .any ops listed → r9 P oi v a →
   wpAnyIn (FW ro) m P .any ops Q fuel (listed.setIfInBounds i true) (a.put oi.dst v) w → wpAnyIn (FW ro) m P .any ops Q (fuel + 1) listed a w := by
 intro fuel
 induction fuel with
 | zero =>
  intro listed a w _ hr hy H
  refine ⟨fun h => (by rw [h] at hr; cases hr), fun j hj => ?_⟩
  by_cases hji : j = i
  ·subst hji; exact hy.opIn hi hg (hpl _ _ hi) H
  ·have := ready_mono hj hji
   rw [H.1] at this
   cases this
 | succ fuel ih =>
  intro listed a w hfree hr hy H
  refine ⟨fun h => (by rw [h] at hr; cases hr), fun j hj => ?_⟩
  by_cases hji : j = i
  ·subst hji; exact hy.opIn hi hg (hpl _ _ hi) H
  ·have h1 := H.2 j (ready_mono hj hji)
   obtain ⟨hjun, oj, hoj, hall⟩ := mem_ready.1 hj
   have hnot : i ∉ cZ oj := fun hm => by
    obtain ⟨e, he, hb, heq⟩ := dI.1 hm
    have h1 := hall e he hb
    have h0 := (mem_ready.1 hr).1
    rw [heq, getD_both h0] at h1
    cases h1
   obtain ⟨q1, q2, q3⟩ := hfree j oj hoj hji hjun hnot
   have h2 := PV hoj q1 q2 q3 (hpl _ _ hi) (hpl _ _ hoj) hQ hy h1
   have hfree' : ∀ k ok, ops[k]? = some ok → k ≠ i → (listed.setIfInBounds j true).getD k true = false → i ∉ cZ ok → KA ops oi ok := fun k ok hk hki hun hno => by
    refine hfree k ok hk hki ?_ hno
    by_cases hjk : j = k
    ·subst hjk; exact hjun
    ·rw [getD_set_ne true hjk] at hun; exact hun
   refine wpOpIn_mono (fun a' w' h3 => ih (listed.setIfInBounds j true) a' w' hfree' (ready_mono hr (Ne.symm hji)) h3.1 ?_) h2
   rw [Array.setIfInBounds_comm _ _ hji]
   exact h3.2
end
theorem sA {l : List Nat} {i : Nat} : mD l i = true ↔ i ∈ l := o0
theorem gP {l : List Nat} {i : Nat} : mD l i = false ↔ i ∉ l := by
 rw [← sA]
 cases mD l i <;> simp
theorem u5 {ops : Array Oper} {o : Oper} {d : Tmp} (h : d ∈ o.looksAt ops) : d ∈ eF ops.toList o := by
 unfold Oper.looksAt at h
 rcases List.mem_append.1 h with h | h
 ·obtain ⟨x, hx, hd⟩ := List.mem_filterMap.1 h
  cases x <;> simp at hd
  subst hd
  exact f8 _ _ _ (p6 hx)
 ·unfold eF
  split at h
  ·rename_i g b hg
   simp only [hg]
   have : lH ops.toList g = some d := by
    unfold lH
    rw [cI, Array.getElem?_toList]
    cases ho : ops[g]? with
    | none => rw [ho] at h; simp at h
    | some og => rw [ho] at h; simpa using h
   rw [this]
   exact List.mem_cons_self ..
  ·cases h
theorem u6 {d : Option Tmp} {l : List Tmp} (h : D0 d l = true) : ∀ e, d = some e → e ∉ l := fun e he hm => by
 subst he
 simp only [D0, sA.2 hm] at h
 cases h
theorem GV {ops : Array Oper} {x y : Oper} (h : J6 ops.toList x y = true) : KA ops x y := by
 simp only [J6, Bool.and_eq_true] at h
 obtain ⟨h1, h2, h3⟩ := h
 refine ⟨fun d hd hm => u6 h1 d hd (u5 hm), fun d hd he => ?_, fun d hd hm => u6 h2 d hd (u5 hm)⟩
 rw [hd, he] at h3
 simp [TW] at h3
theorem CF {C : Cx} {P : Program} {η : Env} (hC : C.Ok P η) {nt : Nat} {ops : Array Oper} {Q : Exit → Act → World → Prop} {ro : Option Nat} {m : Nat} (hpl : ∀ (j : Nat) (o : Oper), ops[j]? = some o → jD o.op = true) (haf : ∀ (j : Nat) (o : Oper), ops[j]? = some o → ∀ k ∈ cZ o, k < ops.size) (hQ : ∀ c a w, ¬ Q (.panic c) a w) {E : Emb} {base : Nat} {w0 w : World} :
  ∀ (l dn : List Nat) (st st' : St) (listed : Array Bool) (a : Act) (fuel : Nat), (r8 C nt ops.toList ops.size l dn st).at_ η = some st' → cR η E nt base w0 st a w → listed.size = ops.size → (∀ j, j < ops.size → (listed.getD j true = true ↔ j ∈ dn)) →
   (∀ a' listed', st'.nx = st.nx → st'.lo = st.lo → cR η E nt base w0 st' a' w → listed'.size = ops.size → (∀ j, j < ops.size → (listed'.getD j true = true ↔ j ∈ dn ∨ j ∈ l)) → wpAnyIn (FW ro) m P .any ops Q fuel listed' a' w) →
   wpAnyIn (FW ro) m P .any ops Q (fuel + l.length) listed a w
 | [], dn, st, st', listed, a, fuel, h, hS, hsz, hli, hK => by
  cases h
  exact hK a listed rfl rfl hS hsz fun j hj => by rw [hli j hj]; simp
 | i :: l, dn, st, st', listed, a, fuel, h, hS, hsz, hli, hK => by
  simp only [r8, cI, Array.getElem?_toList] at h
  cases ho : ops[i]? with
  | none => rw [ho] at h; cases h
  | some o =>
   rw [ho] at h
   simp only at h
   cases hb : UM ops.toList ops.size i o dn with
   | false => rw [hb] at h; cases h
   | true =>
    rw [hb] at h
    obtain ⟨⟨sv, pc⟩, h1, h2⟩ := aA.at_bind h
    obtain ⟨st1, h3, h4⟩ := aA.at_bind h2
    simp only [UM, Bool.and_eq_true, Bool.not_eq_true'] at hb
    obtain ⟨b1, b2, b3, b4, b5, b6⟩ := hb
    have b1 : i < ops.size := Nat.le_of_ble_eq_true b1
    have b4 := gP.1 b4
    obtain ⟨rfl, v, hv, hy⟩ := J9 (P := P) hC b3 (fun x _ => hS.fr.orel x) h1
    obtain ⟨hS1, n1, n2, _, _⟩ := cT h3 (hS.of_pc hS.pc) hv
    have hg : o.guard = none := by
     unfold DZ at b2
     split at b2
     ·assumption
     ·cases b2
    have hun : listed.getD i true = false := by
     cases hc : listed.getD i true with
     | false => rfl
     | true => exact absurd ((hli i b1).1 hc) b4
    have hlt : i < listed.size := by omega
    rw [List.length_cons, ← Nat.add_assoc]
    refine OD ho hpl hg hQ _ listed a w (fun j oj hj hji hju hno => ?_) (mem_ready.2 ⟨hun, o, ho, fun e he hb => ?_⟩) hy ?_
    ·have hjs := (Array.getElem?_eq_some_iff.1 hj).1
     have := bJ b6 j hjs
     simp only [TX, Bool.or_eq_true] at this
     rcases this with h | h | h | h
     ·rw [(hli j hjs).2 (sA.1 h)] at hju; cases hju
     ·exact absurd (Nat.eq_of_beq_eq_true h) hji
     ·obtain ⟨o', ho', e, he, hb, hon⟩ := Region.waitsFor_spec (iH h)
      have : o' = oj := Option.some.inj (ho'.symm.trans hj)
      subst this
      exact absurd (dI.2 ⟨e, he, hb, hon⟩) hno
     ·rw [cI, Array.getElem?_toList, hj] at h
      exact GV h
    ·have hm := sA.1 (List.all_eq_true.1 b5 e.on (dI.2 ⟨e, he, hb, rfl⟩))
     have hlt' := haf i o ho e.on (dI.2 ⟨e, he, hb, rfl⟩)
     have := (hli e.on hlt').2 hm
     have hes : e.on < listed.size := by omega
     simp [hes] at this ⊢
     exact this
    ·refine CF hC hpl haf hQ l (i :: dn) st1 st' _ _ fuel h4 hS1 (by simp [hsz]) (fun j hj => ?_) fun a' listed' e1 e2 e3 e4 e5 => hK a' listed' (e1.trans n1) (e2.trans n2) e3 e4 fun j hj => ?_
     ·by_cases hij : i = j
      ·subst hij
       simp [hlt]
      ·rw [getD_set_ne true hij, hli j hj, List.mem_cons]
       exact ⟨.inr, fun h => h.resolve_left (Ne.symm hij)⟩
     ·rw [e5 j hj, List.mem_cons, List.mem_cons, or_assoc]
      exact or_left_comm

/-! ## What is left of such a region -/
theorem yC {ops : Array Oper} {R fl : List Nat} : ∀ {s : List Nat} {l : List Oper}, GP ops.toList R fl s = some l → l.length = s.length ∧ ∀ j i : Nat, s[j]? = some i → ∃ o, ops[i]? = some o ∧ l[j]? = some (D1 R fl o)
 | [], l, h => by cases h; exact ⟨rfl, fun j i hj => by simp at hj⟩
 | i :: s, l, h => by
  simp only [GP, cI, Array.getElem?_toList] at h
  split at h
  ·rename_i o m h1 h2
   cases h
   obtain ⟨e1, e2⟩ := yC h2
   refine ⟨by simp [e1], fun j k hj => ?_⟩
   cases j with
   | zero => simp at hj; subst hj; exact ⟨o, h1, rfl⟩
   | succ j => simpa using e2 j k (by simpa using hj)
  ·cases h
structure MT (ops ops' : Array Oper) (R fl : List Nat) : Prop where
 a : ∀ i, i < ops.size → i ∉ fl → R[iG R i]? = some i
 b : ∀ j, j < R.length → ∃ i, R[j]? = some i ∧ i < ops.size ∧ i ∉ fl ∧ iG R i = j
 sz : ops'.size = R.length
 c : ∀ j i : Nat, R[j]? = some i → ∃ o, ops[i]? = some o ∧ ops'[j]? = some (D1 R fl o)
 pl : ∀ (i : Nat) (o : Oper), ops[i]? = some o → jD o.op = true ∧ (∀ k ∈ cZ o, k < ops.size) ∧ ∀ j b, o.guard = some (j, b) → j < ops.size ∧ j ∉ fl
 n : R.length + fl.length = ops.size
theorem PW {ops : Array Oper} {R fl : List Nat} {l : List Oper} (h : D2 ops.toList ops.size R fl = true) (hl : GP ops.toList R fl R = some l) : MT ops l.toArray R fl := by
 simp only [D2, Bool.and_eq_true] at h
 obtain ⟨h1, h2, h3, h4⟩ := h
 obtain ⟨e1, e2⟩ := yC hl
 refine ⟨fun i hi hf => ?_, fun j hj => ?_, by simpa using e1, fun j i hj => ?_, fun i o ho => ?_, ?_⟩
 ·have := bJ h2 i hi
  rw [gP.2 hf, Bool.false_or, cI] at this
  exact yB this
 ·have := bJ h3 j (by rw [kH]; exact hj)
  rw [cI] at this
  split at this
  ·rename_i i hi
   simp only [Bool.and_eq_true, Bool.not_eq_true'] at this
   exact ⟨i, hi, Nat.le_of_ble_eq_true this.1, gP.1 this.2.1, Nat.eq_of_beq_eq_true this.2.2⟩
  ·cases this
 ·obtain ⟨o, q1, q2⟩ := e2 j i hj
  exact ⟨o, q1, by simpa using q2⟩
 ·have := List.all_eq_true.1 h4 o (by
   have := List.mem_of_getElem? (l := ops.toList) (i := i) (by rw [Array.getElem?_toList]; exact ho)
   exact this)
  simp only [PQ, Bool.and_eq_true] at this
  refine ⟨this.1, fun k hk => Nat.le_of_ble_eq_true (List.all_eq_true.1 this.2.1 k hk), fun j b hg => ?_⟩
  have h5 := this.2.2
  rw [hg] at h5
  simp only [Bool.and_eq_true, Bool.not_eq_true'] at h5
  exact ⟨Nat.le_of_ble_eq_true h5.1, gP.1 h5.2⟩
 ·have := Nat.eq_of_beq_eq_true h1
  rw [kH, kH] at this
  exact this
theorem wK {l : Array Bool} {i : Nat} (h : i < l.size) : l.getD i false = l.getD i true := by simp [h]
theorem p9 {ops ops' : Array Oper} {R fl : List Nat} (hF : MT ops ops' R fl) {listed listed' : Array Bool} (hsz : listed.size = ops.size) (hsz' : listed'.size = ops'.size) (hfl : ∀ i, i ∈ fl → i < ops.size → listed.getD i true = true) (hli : ∀ i, i < ops.size → i ∉ fl → listed'.getD (iG R i) true = listed.getD i true)
  {i : Nat} (hi : i < ops.size) (hf : i ∉ fl) : i ∈ Region.ready .any ops listed ↔ iG R i ∈ Region.ready .any ops' listed' := by
 have hRi := hF.a i hi hf
 obtain ⟨o, ho, ho'⟩ := hF.c _ _ hRi
 have hpos : ∀ k, k < ops.size → k ∉ fl → iG R k < listed'.size := fun k hk hkf => by
  rw [hsz', hF.sz]
  exact (List.getElem?_eq_some_iff.1 (hF.a k hk hkf)).1
 rw [mem_ready, mem_ready, hli i hi hf]
 refine and_congr_right fun _ => ?_
 constructor
 ·rintro ⟨o1, ho1, h⟩
  have : o1 = o := Option.some.inj (ho1.symm.trans ho)
  subst this
  refine ⟨_, ho', fun e he hb => ?_⟩
  simp only [D1] at he
  obtain ⟨e0, he0, rfl⟩ := List.mem_map.1 (List.mem_toArray.1 he)
  obtain ⟨q1, q2⟩ := List.mem_filter.1 he0
  have q2 := gP.1 (by simpa using q2)
  have hb0 : Region.binds .any e0 = true := hb
  have hlt := (hF.pl i _ ho).2.1 e0.on (dI.2 ⟨e0, by simpa using q1, hb0, rfl⟩)
  have := h e0 (by simpa using q1) hb0
  show listed'.getD (iG R e0.on) false = true
  rw [wK (hpos _ hlt q2), hli _ hlt q2, ← wK (by omega)]
  exact this
 ·rintro ⟨o1, ho1, h⟩
  have : o1 = D1 R fl o := Option.some.inj (ho1.symm.trans ho')
  subst this
  refine ⟨o, ho, fun e he hb => ?_⟩
  have hlt := (hF.pl i _ ho).2.1 e.on (dI.2 ⟨e, he, hb, rfl⟩)
  rw [wK (by omega)]
  by_cases hef : e.on ∈ fl
  ·exact hfl _ hef hlt
  ·have := h { e with on := iG R e.on } (by
    simp only [D1]
    refine List.mem_toArray.2 (List.mem_map.2 ⟨e, List.mem_filter.2 ⟨by simpa using he, ?_⟩, rfl⟩)
    simp [gP.2 hef]) hb
   rw [wK (hpos _ hlt hef), hli _ hlt hef] at this
   exact this
theorem SP {P : Program} {ops ops' : Array Oper} {Q : Exit → Act → World → Prop} {F : Fence} {m : Nat} {R fl : List Nat} (hF : MT ops ops' R fl) {i : Nat} (hi : i < ops.size) (hf : i ∉ fl) {K : Act → World → Prop} {a : Act} {w : World} (h : wpOpIn F m P ops' Q (iG R i) K a w) : wpOpIn F m P ops Q i K a w := by
 obtain ⟨o, ho, ho'⟩ := hF.c _ _ (hF.a i hi hf)
 unfold wpOpIn at *
 rw [ho'] at h
 rw [ho]
 simp only at h ⊢
 have hw : Region.wanted (D1 R fl o) (yielded ops' a.tmps) = Region.wanted o (yielded ops a.tmps) := by
  unfold Region.wanted
  cases hg : o.guard with
  | none => simp only [D1, hg, UN]
  | some g =>
   obtain ⟨j, b⟩ := g
   simp only [D1, hg, UN]
   obtain ⟨q1, q2⟩ := (hF.pl i o ho).2.2 j b hg
   obtain ⟨oj, hj, hj'⟩ := hF.c _ _ (hF.a j q1 q2)
   have : yielded ops' a.tmps (iG R j) = yielded ops a.tmps j := by
    unfold yielded
    simp only [hj, hj', Option.bind_some]
    rfl
   rw [this]
 rw [hw] at h
 exact h
theorem PX {P : Program} {ops ops' : Array Oper} {Q : Exit → Act → World → Prop} {F : Fence} {m : Nat} {R fl : List Nat} (hF : MT ops ops' R fl) : ∀ (fuel : Nat) (listed listed' : Array Bool) (a : Act) (w : World), listed.size = ops.size → listed'.size = ops'.size → (∀ i, i ∈ fl → i < ops.size → listed.getD i true = true) → (∀ i, i < ops.size → i ∉ fl → listed'.getD (iG R i) true = listed.getD i true) →
  wpAnyIn F m P .any ops' Q fuel listed' a w → wpAnyIn F m P .any ops Q fuel listed a w := by
 have hnil : ∀ (listed listed' : Array Bool), listed.size = ops.size → listed'.size = ops'.size → (∀ i, i ∈ fl → i < ops.size → listed.getD i true = true) → (∀ i, i < ops.size → i ∉ fl → listed'.getD (iG R i) true = listed.getD i true) → Region.ready .any ops listed = [] → Region.ready .any ops' listed' = [] := by
  intro listed listed' h1 h2 h3 h4 h5
  cases hr : Region.ready .any ops' listed' with
  | nil => rfl
  | cons j l =>
   have hj : j ∈ Region.ready .any ops' listed' := by rw [hr]; exact List.mem_cons_self ..
   obtain ⟨_, o, ho, _⟩ := mem_ready.1 hj
   obtain ⟨i, q1, q2, q3, rfl⟩ := hF.b j (by rw [← hF.sz]; exact (Array.getElem?_eq_some_iff.1 ho).1)
   have := (p9 hF h1 h2 h3 h4 q2 q3).2 hj
   rw [h5] at this; cases this
 have hin : ∀ (listed : Array Bool), (∀ i, i ∈ fl → i < ops.size → listed.getD i true = true) → ∀ i ∈ Region.ready .any ops listed, i < ops.size ∧ i ∉ fl := fun listed h3 i hi => by
  obtain ⟨h0, o, ho, _⟩ := mem_ready.1 hi
  have hlt := (Array.getElem?_eq_some_iff.1 ho).1
  exact ⟨hlt, fun hm => by rw [h3 i hm hlt] at h0; cases h0⟩
 intro fuel
 induction fuel with
 | zero =>
  intro listed listed' a w h1 h2 h3 h4 h
  refine ⟨?_, h.2⟩
  cases hr : Region.ready .any ops listed with
  | nil => rfl
  | cons i l =>
   have hi : i ∈ Region.ready .any ops listed := by rw [hr]; exact List.mem_cons_self ..
   obtain ⟨q1, q2⟩ := hin listed h3 i hi
   have := (p9 hF h1 h2 h3 h4 q1 q2).1 hi
   rw [h.1] at this; cases this
 | succ fuel ih =>
  intro listed listed' a w h1 h2 h3 h4 h
  refine ⟨fun h0 => h.1 (hnil listed listed' h1 h2 h3 h4 h0), fun i hi => ?_⟩
  obtain ⟨q1, q2⟩ := hin listed h3 i hi
  have hpi := (List.getElem?_eq_some_iff.1 (hF.a i q1 q2)).1
  refine SP hF q1 q2 (wpOpIn_mono (fun a' w' h' => ih _ _ a' w' (by simp [h1]) (by simp [h2]) (fun k hk hlt => ?_) (fun k hk hkf => ?_) h') (h.2 _ ((p9 hF h1 h2 h3 h4 q1 q2).1 hi)))
  ·rw [getD_set_ne true (fun e => q2 (by rw [e]; exact hk))]
   exact h3 k hk hlt
  ·by_cases hik : i = k
   ·subst hik
    have e1 : i < listed.size := by omega
    have e2 : iG R i < listed'.size := by rw [h2, hF.sz]; exact hpi
    simp [e1, e2]
   ·rw [getD_set_ne true hik, getD_set_ne true (fun e => hik ?_), h4 k hk hkf]
    have q3 := hF.a i q1 q2
    rw [e, hF.a k hk hkf] at q3
    exact (Option.some.inj q3).symm
theorem PY {C : Cx} {P : Program} {η : Env} (hC : C.Ok P η) : DT P η (xY C) := by
 intro ih hih nt ops st st' h E base w0 a w hS Q id hK ro m
 have hS1 : cR η E nt base w0 st a w.drew := ⟨hS.fr, hS.sz, hS.nt, hS.df, hS.hr.drew, hS.bl.drew, hS.lo, hS.pc⟩
 unfold xY at h
 cases hu : W9 C ops.toList with
 | false => rw [hu] at h; exact wpIn_region_any hC.mixed (CE hC hih h hS1 hK ro m)
 | true =>
  rw [hu] at h
  replace h : (PR C ih nt ops.toList st).at_ η = some st' := h
  unfold PR at h
  simp only at h
  split at h
  ·rename_i l hl
   have hm : iE ops.toList = ops.size := by rw [kH]; simp
   rw [hm] at h
   cases hb : D2 ops.toList ops.size (xX (N6 0 ops.toList []) 0 ops.toList) (N6 0 ops.toList []) with
   | false => rw [hb] at h; cases h
   | true =>
    rw [hb] at h
    have hF := PW hb hl
    obtain ⟨st1, h1, h2⟩ := aA.at_bind h
    refine wpIn_mono (Q := fun x a w => x = .normal ∧ Q x a w) (wpIn_region_any hC.mixed ?_) fun _ _ _ h => h.2
    have key := CF (ro := ro) (m := m) (Q := fun x a w => x = .normal ∧ Q x a w) hC (fun j o ho => (hF.pl j o ho).1) (fun j o ho => (hF.pl j o ho).2.1) (fun c a w h => by cases h.1) (N6 0 ops.toList []) [] st st1 (Array.replicate ops.size false) a (xX (N6 0 ops.toList []) 0 ops.toList).length h1 hS1 (by simp) (fun j hj => by simp [hj]) (fun a' listed' e1 e2 hS2 hsz hli => ?_)
    ·rw [hF.n] at key
     exact key
    ·refine PX hF _ listed' (Array.replicate l.toArray.size false) a' _ hsz (by simp) (fun i hi hlt => (hli i hlt).2 (.inr hi)) (fun i hi hf => ?_) ?_
     ·have hpi := (List.getElem?_eq_some_iff.1 (hF.a i hi hf)).1
      have h5 : listed'.getD i true = false := by
       cases hc : listed'.getD i true with
       | false => rfl
       | true =>
         rcases (hli i hi).1 hc with h | h
         ·cases h
         ·exact absurd h hf
      rw [h5]
      have := hF.sz
      simp only [List.size_toArray] at this
      simp [this, hpi]
     ·rw [← hF.sz]
      exact CE hC hih (ops := l.toArray) h2 hS2 (fun E' a2 w2 hA hn hlo hS3 => ⟨rfl, hK E' a2 w2 (by rw [← e1]; exact hA) (by rw [← e1]; exact hn) (hlo.trans e2) hS3⟩) ro m
  ·cases h

end
end Go.Ex

