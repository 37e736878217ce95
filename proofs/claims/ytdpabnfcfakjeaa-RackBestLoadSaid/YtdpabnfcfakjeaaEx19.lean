/-
 That the executor of regions that draw their order is right: the head.
-/
import Derived.Test.YtdpabnfcfakjeaaEx18

namespace Go.Ex
open Go Go.RowKit
noncomputable section
variable {ro : Option Nat} {m : Nat}

theorem dI {o : Oper} {j : Nat} : j ∈ cZ o ↔ ∃ e ∈ o.after, Region.binds .any e = true ∧ e.on = j := by
 simp [cZ, List.mem_map, List.mem_filter, and_assoc]

/-- Nothing is carried out ahead of what it waits for. -/
def p7 (ops : Array Oper) (L : Nat → Prop) : Prop := ∀ i o, L i → ops[i]? = some o → ∀ j ∈ cZ o, L j

theorem D4 {ops : Array Oper} {L : Nat → Prop} (hL : p7 ops L) : ∀ (f : Nat) (fr acc : List Nat), (∀ j ∈ fr, L j) → (∀ j ∈ acc, L j) → ∀ k ∈ clo ops.toList f fr acc, L k
 | 0, _, acc, _, ha, k, hk => ha k hk
 | _ + 1, [], acc, _, ha, k, hk => ha k hk
 | f + 1, j :: fr, acc, hf, ha, k, hk => by
  simp only [clo] at hk
  have hf' : ∀ m ∈ fr, L m := fun m hm => hf m (List.mem_cons_of_mem _ hm)
  cases hc : (acc.any fun k => Nat.beq k j) with
  | true => rw [hc] at hk; exact D4 hL f fr acc hf' ha k hk
  | false =>
   rw [hc] at hk
   simp only [cond_false] at hk
   split at hk
   ·rename_i o ho
    rw [cI, Array.getElem?_toList] at ho
    have hj := hf j (List.mem_cons_self ..)
    refine D4 hL f (cZ o ++ fr) (j :: acc) (fun m hm => ?_) (fun m hm => ?_) k hk
    ·rcases List.mem_append.1 hm with hm | hm
     ·exact hL j o hj ho m hm
     ·exact hf' m hm
    ·cases hm with
     | head => exact hj
     | tail _ hm => exact ha m hm
   ·exact D4 hL f fr acc hf' ha k hk
theorem lI {ops : Array Oper} {L : Nat → Prop} (hL : p7 ops L) {o : Oper} (hj : ∀ j ∈ cZ o, L j) : ∀ k ∈ gH ops.toList o, L k := by
 intro k hk
 unfold gH at hk
 cases ha : (jV ops.toList || rZ ops.toList) with
 | true => rw [ha] at hk; exact D4 hL 4000 _ [] hj (fun _ h => by cases h) k hk
 | false => rw [ha] at hk; cases hk
theorem kG {ops : List Oper} : ∀ {l : List Nat} {k : Nat}, k ∈ jW ops l → k ∈ l
 | [], k, h => by cases h
 | j :: l, k, h => by
  simp only [jW] at h
  split at h
  ·rename_i o _
   cases ha : rX o with
   | true =>
    rw [ha] at h
    cases h with
    | head => exact List.mem_cons_self ..
    | tail _ h => exact List.mem_cons_of_mem _ (kG h)
   | false => rw [ha] at h; exact List.mem_cons_of_mem _ (kG h)
  ·exact List.mem_cons_of_mem _ (kG h)

theorem x7 {bk : T Blk} {nx : Nat} : ∀ {l : List Nat} {bl}, xT bk nx l = some bl → ∀ p ∈ bl, ∃ k ∈ l, ∃ b, bk.get k = some b ∧ p = (nx + k, b)
 | [], bl, h, p, hp => by cases h; cases hp
 | k :: l, bl, h, p, hp => by
  simp only [xT] at h
  split at h
  ·rename_i b m h1 h2
   cases h
   cases hp with
   | head => exact ⟨k, List.mem_cons_self .., b, h1, rfl⟩
   | tail _ hp => obtain ⟨k', hk', r⟩ := x7 h2 p hp; exact ⟨k', List.mem_cons_of_mem _ hk', r⟩
  ·cases h

/-- What the executor holds of a head: each operation's value, each operation's block, what each store does. -/
structure bG where
 v : Nat → Option Sv
 b : Nat → Option Blk
 w : Nat → Option (Nat × Blk)

/-- What holds of a frame and a world while a head is under way: 'L': the operations that have been carried out. -/
structure Inv (η : Env) (ops : Array Oper) (E0 : Emb) (nx0 top lo base nt : Nat) (w0 : World) (tm0 : T Sv) (hp0 : T Blk) (V : bG) (L : Nat → Prop) (E : Emb) (a : Act) (w : World) : Prop where
 ag : aH E0 E nx0
 old : ∀ t s, tm0.get t = some s → (∀ i o, L i → ops[i]? = some o → o.dst ≠ some t) → ∃ v, a.tmps[t]? = some v ∧ s.den η E = some v
 rc : ∀ i o d, L i → ops[i]? = some o → o.dst = some d → ∃ s v, V.v i = some s ∧ a.tmps[d]? = some v ∧ s.den η E = some v
 hp : ∃ hp, (∀ i b, hp0.get i = some b → (∀ k c, L k → V.w k ≠ some (i, c)) → hp.get i = some b) ∧ (∀ i b, L i → V.b i = some b → (∀ k c, L k → V.w k ≠ some (nx0 + i, c)) → hp.get (nx0 + i) = some b) ∧
  (∀ k x c, L k → V.w k = some (x, c) → hp.get x = some c) ∧ aD η E hp top lo base w
 fresh : ∀ j, ¬ L j → nx0 + j < top → E (nx0 + j) = none ∧ ∀ k, E.r (nx0 + j) k = none
 sz : a.tmps.size = nt
 df : a.defers = E0.dl.l
 bl : Below base w0 w

/-- A store that the executor carries out in a head. -/
def StB (C : Cx) (tm : T Sv) (hp : T Blk) (lo : Nat) (t : TypeId) (x v : Operand) (r : Nat × Blk) : Prop :=
 tD C tm hp lo t x v = some r ∨ fD C tm hp lo t x v = some (true, r)
theorem StB.of {C : Cx} {tm : T Sv} {hp : T Blk} {lo : Nat} {t : TypeId} {x v : Operand} {r : Option Bool × Nat × Blk} (h : stB C tm hp lo t x v = some r) (hc : ∀ b, r.1 = some b → b = true) : StB C tm hp lo t x v r.2 := by
 unfold stB at h
 split at h
 ·rename_i q hq
  cases h; exact .inl hq
 ·split at h
  ·rename_i q hq
   cases h
   have := hc _ rfl
   exact .inr (by rw [hq, ← this])
  ·cases h
theorem pM {C : Cx} {tm : T Sv} {hp hp' : T Blk} {lo : Nat} {t : TypeId} {x v : Operand} {r : Bool × Nat × Blk} (hs : ∀ i b, hp.get i = some b → hp'.get i = some b) (h : fD C tm hp lo t x v = some r) : fD C tm hp' lo t x v = some r ∧ ∃ b, hp.get r.2.1 = some b := by
 unfold fD at h
 split at h
 ·rename_i b sz i j c ti h1 h2 h3
  split at h
  ·rename_i s d e cs n f h4 h5
   have h6 := hs _ _ h5
   cases hc : (Nat.ble lo b && (Nat.beq ti.size 1 && (Nat.beq sz cs.length && (Nat.blt j cs.length && shB (iD cs j) s)))) with
   | false => rw [hc] at h; cases h
   | true =>
    have e : r = (Nat.blt i n, b, .row e cs n (j3 f i j d)) := by rw [hc] at h; cases h; rfl
    subst e
    refine ⟨?_, _, h5⟩
    unfold fD
    simp only [h1, h2, h3, h4, h6, hc, cond_true]
  ·cases h
 ·cases h
theorem SM {C : Cx} {tm : T Sv} {hp : T Blk} {lo : Nat} {t : TypeId} {x v : Operand} {r : Nat × Blk} (h : StB C tm hp lo t x v r) : ∃ b, hp.get r.1 = some b := by
 rcases h with h | h
 ·exact JY h
 ·exact (pM (fun _ _ h => h) h).2
theorem SN {C : Cx} {P : Program} {η : Env} {E : Emb} (hC : C.Ok P η) {hp hpi : T Blk} {nx lo base : Nat} {w w0 : World} (hH : aD η E hp nx lo base w) (hB : Below base w0 w) {tm : T Sv} {a : Act} {o : Oper} {t : TypeId} {x v : Operand} (ho : o.op = .store t x v)
  (hx : ∀ x ∈ o.op.operands, mH η E tm a x) (hs : ∀ i b, hpi.get i = some b → hp.get i = some b) {r : Nat × Blk} (h : StB C tm hpi lo t x v r) :
  ∃ w', (execOp a.eval o).run P w = .ok .skip w' ∧ aD η E (hp.set r.1 (some r.2)) nx lo base w' ∧ Below base w0 w' := by
 rcases h with h | h
 ·exact xG hC hH hB ho hx (JX hs h)
 ·exact pP hC hH hB ho hx (pM hs h).1 rfl
theorem PS {C : Cx} {P : Program} {η : Env} (hC : C.Ok P η) {ih : FI → List Sv → St → aA (Sv × St)} (hih : eR P η ih) {f : FuncId} {fi : FI} {args : List Sv} {st : St} {r : Sv × St} (h : (SI C ih f fi args st).at_ η = some r) (hF : FI.Ok P f fi) (hpc : st.pc.holds η) (hlo : st.lo ≤ st.nx) :
  ∀ E base w0 w vs, aD η E st.hp st.nx st.lo base w → Below base w0 w → aB η E args = some vs →
   Calls P f vs.toArray w fun e w' => ∃ v E', e = .returned v ∧ r.1.den η E' = some v ∧ aH E E' st.nx ∧ aD η E' r.2.hp r.2.nx st.lo base w' ∧ Below base w0 w' ∧ r.2.pc.holds η ∧ st.nx ≤ r.2.nx := by
 intro E base w0 w vs hH hB hv
 unfold SI at h
 split at h
 ·rename_i g hg
  obtain ⟨r1, e1, e2⟩ := aA.at_bind h
  cases e2
  exact (hC.es f g hg _ _ _ _ _ _ e1 hpc hlo E base w0 w vs hH hB hv).2
 ·exact hih fi args st r h f hF hpc hlo E base w0 w vs hH hB hv

/-- What an operation sees of the memory is so wherever it may come. -/
def BR (ops : Array Oper) (n nx0 : Nat) (hp0 : T Blk) (V : bG) (i : Nat) (o : Oper) (hp : T Blk) : Prop :=
 ∀ x b, hp.get x = some b → (∃ k ∈ gH ops.toList o, V.w k = some (x, b)) ∨
  ((hp0.get x = some b ∨ ∃ k ∈ gH ops.toList o, V.b k = some b ∧ x = nx0 + k) ∧ ∀ k ok c, k < n → ops[k]? = some ok → V.w k = some (x, c) → i ∈ gH ops.toList ok ∨ k = i)

/-- The executor's word for operation i. -/
structure OA (C : Cx) (η : Env) (ih : FI → List Sv → St → aA (Sv × St)) (ops : Array Oper) (n nx0 top lo : Nat) (tm0 : T Sv) (hp0 : T Blk) (V : bG) (i : Nat) (o : Oper) (pc pc' : PC) : Prop where
 says : ∃ tm hpi s, V.v i = some s ∧
  (∀ t ∈ eF ops.toList o, ∀ s, tm.get t = some s → (∃ k ok, k ∈ cZ o ∧ ops[k]? = some ok ∧ ok.dst = some t ∧ V.v k = some s) ∨ (tm0.get t = some s ∧ ∀ k ok, k < n → ops[k]? = some ok → ok.dst = some t → i ∈ cZ ok ∨ k = i)) ∧
  ((∃ ar, o.guard = none ∧ aop C tm o.op = some ar ∧ (∀ b, ar.ck = some b → b = true) ∧ s = ar.sv (nx0 + i) ∧ V.b i = some ar.blk ∧ V.w i = none ∧ pc' = pc) ∨
   (BR ops n nx0 hp0 V i o hpi ∧ (MM C ih ops.toList o ⟨tm, hpi, top, lo, pc⟩).at_ η = some (s, pc') ∧ V.b i = none ∧ V.w i = none) ∨
   (∃ t x v r, BR ops n nx0 hp0 V i o hpi ∧ o.guard = none ∧ o.op = .store t x v ∧ StB C tm hpi lo t x v r ∧ s = .undef ∧ V.b i = none ∧ V.w i = some r ∧ pc' = pc ∧ ∀ j y c, j < n → j ≠ i → V.w j = some (y, c) → y ≠ r.1) ∨
   (∃ f g args r, BR ops n nx0 hp0 V i o hpi ∧ gOf C tm o = some (f, g, args) ∧ (pX g hpi top args pc).at_ η = some (r, pc') ∧ s = jA (nx0 + i) r ∧ V.b i = none ∧ V.w i = none) ∨
   (∃ f fi args r blk, BR ops n nx0 hp0 V i o hpi ∧ lOf C tm o = some (f, fi, args) ∧ (SI C ih f fi args ⟨.nil, hpi, top, top, pc⟩).at_ η = some r ∧ DW r.2.hp top (nx0 + i) r.1 = some (blk, s) ∧ V.b i = some blk ∧ V.w i = none ∧ pc' = r.2.pc) ∨
   (∃ r, BR ops n nx0 hp0 V i o hpi ∧ cOf C tm hpi lo o = some r ∧ s = .one (.int .i64 (.lit (.ofNat r.2.2))) ∧ V.b i = none ∧ V.w i = some (r.1, r.2.1) ∧ pc' = pc ∧ ∀ j y c, j < n → j ≠ i → V.w j = some (y, c) → y ≠ r.1) ∨
   (∃ j want d bx pc1, o.guard = some (j, want) ∧ lH ops.toList j = some d ∧ tm.get d = some (.one (.bool bx)) ∧ pc1.holds η ∧ V.b i = none ∧ V.w i = none ∧
    (((bx.den η == want) = true ∧ ∃ f g args r, BR ops n nx0 hp0 V i o hpi ∧ gOf C tm { o with guard := none } = some (f, g, args) ∧ (pX g hpi top args pc1).at_ η = some (r, pc') ∧ s = jA (nx0 + i) r) ∨ ((bx.den η == want) = false ∧ s = .undef ∧ pc' = pc1))))

theorem GS {C : Cx} {P : Program} {η : Env} (hC : C.Ok P η) {ih : FI → List Sv → St → aA (Sv × St)} (hih : eR P η ih) {ops : Array Oper}
  {E0 : Emb} {n nx0 top lo base nt : Nat} {w0 : World} {tm0 : T Sv} {hp0 : T Blk} {V : bG} {L : Nat → Prop} {E : Emb} {a : Act} {w : World} (hI : Inv η ops E0 nx0 top lo base nt w0 tm0 hp0 V L E a w)
  (hL : p7 ops L) (hLn : ∀ i, L i → i < n) (hn : n ≤ ops.size) {i : Nat} (hiL : ¬ L i) (hit : nx0 + i < top) {o : Oper} (ho : ops[i]? = some o) (haL : ∀ j ∈ cZ o, L j)
  (hne : ∀ d, o.dst = some d → ∀ j oj, L j → ops[j]? = some oj → oj.dst ≠ some d) (hd : ∀ d, o.dst = some d → d < nt) {pc pc' : PC} (hpc : pc.holds η) (hw : OA C η ih ops n nx0 top lo tm0 hp0 V i o pc pc') :
  pc'.holds η ∧ ∃ S : Act → World → Prop, (∃ a' w', S a' w') ∧ (∀ a' w', S a' w' → ∃ E', Inv η ops E0 nx0 top lo base nt w0 tm0 hp0 V (fun j => L j ∨ j = i) E' a' w') ∧
   ∀ (Q : Exit → Act → World → Prop) (K : Act → World → Prop), (∀ a' w', S a' w' → K a' w') → wpOpIn (FW ro) m P ops Q i K a w := by
 obtain ⟨ag, old, rc, ⟨hp, hp1, hp2, hp3, hH⟩, fresh, sz, df, bl⟩ := hI
 obtain ⟨tm, hpi, s, hVi, hslots, hsay⟩ := hw.says
 have hs : ∀ t ∈ eF ops.toList o, ∀ s, tm.get t = some s → ∃ v, a.tmps[t]? = some v ∧ s.den η E = some v := by
  intro t ht s hts
  rcases hslots t ht s hts with ⟨k, ok, hk, hok, hdk, hVk⟩ | ⟨h0, hold⟩
  ·obtain ⟨s', v, e1, e2, e3⟩ := rc k ok t (haL k hk) hok hdk
   rw [hVk] at e1; cases e1
   exact ⟨v, e2, e3⟩
  ·refine old t s h0 fun k ok hLk hok hdk => ?_
   rcases hold k ok (hLn k hLk) hok hdk with h | h
   ·exact hiL (hL k ok hLk hok i h)
   ·subst h; exact hiL hLk
 have hsees : BR ops n nx0 hp0 V i o hpi → ∀ x b, hpi.get x = some b → hp.get x = some b := by
  intro hse x b hx
  rcases hse x b hx with ⟨k, hk, hw⟩ | ⟨hb, hno⟩
  ·exact hp3 k x b (lI hL haL k hk) hw
  ·have hno' : ∀ k c, L k → V.w k ≠ some (x, c) := fun k c hk hwk => by
    have hkn := hLn k hk
    have hks : k < ops.size := by omega
    rcases hno k ops[k] c hkn (Array.getElem?_eq_getElem hks) hwk with h | h
    ·exact hiL (lI hL (hL k _ hk (Array.getElem?_eq_getElem hks)) i h)
    ·subst h; exact hiL hk
   rcases hb with hb | ⟨k, hk, hb, rfl⟩
   ·exact hp1 x b hb hno'
   ·exact hp2 k b (lI hL haL k hk) hb hno'
 have oldput : ∀ {E' : Emb} v, E.le E' → ∀ t s, tm0.get t = some s → (∀ k ok, (L k ∨ k = i) → ops[k]? = some ok → ok.dst ≠ some t) → ∃ u, (a.put o.dst v).tmps[t]? = some u ∧ s.den η E' = some u := by
  intro E' v hle t s hts hnot
  obtain ⟨u, h1, h2⟩ := old t s hts fun k ok hk hok => hnot k ok (.inl hk) hok
  refine ⟨u, ?_, Sv.den_mono hle h2⟩
  cases hod : o.dst with
  | none => exact h1
  | some d =>
   have : d ≠ t := fun e => by subst e; exact hnot i o (.inr rfl) ho hod
   simp [Act.put, Array.getElem?_setIfInBounds_ne this, h1]
 have rcput : ∀ {E' : Emb} v, E.le E' → s.den η E' = some v → ∀ j oj d, (L j ∨ j = i) → ops[j]? = some oj → oj.dst = some d → ∃ s' u, V.v j = some s' ∧ (a.put o.dst v).tmps[d]? = some u ∧ s'.den η E' = some u := by
  intro E' v hle hv j oj d hj hoj hdj
  rcases hj with hj | rfl
  ·obtain ⟨s', u, e1, e2, e3⟩ := rc j oj d hj hoj hdj
   refine ⟨s', u, e1, ?_, Sv.den_mono hle e3⟩
   cases hod : o.dst with
   | none => exact e2
   | some e =>
    have : e ≠ d := fun he => by subst he; exact hne e hod j oj hj hoj hdj
    simp [Act.put, Array.getElem?_setIfInBounds_ne this, e2]
  ·have : oj = o := Option.some.inj (hoj.symm.trans ho)
   subst this
   have hlt : d < a.tmps.size := by rw [sz]; exact hd d hdj
   exact ⟨s, v, hVi, by simp [Act.put, hdj, hlt], hv⟩
 have szput : ∀ v, (a.put o.dst v).tmps.size = nt := fun v => by
  cases o.dst with
  | none => exact sz
  | some d => simp [Act.put, sz]
 have dfput : ∀ v, (a.put o.dst v).defers = E0.dl.l := fun v => by
  cases o.dst with
  | none => exact df
  | some d => exact df
 have frput : ∀ j, ¬ (L j ∨ j = i) → nx0 + j < top → E (nx0 + j) = none ∧ ∀ k, E.r (nx0 + j) k = none := fun j hj hjt => fresh j (fun h => hj (.inl h)) hjt
 rcases hsay with ⟨ar, hg, har, hck, rfl, hVb, hVw, rfl⟩ | ⟨hse, hx, hVb, hVw⟩ | ⟨t, x, v, r, hse, hg, hop, hst, rfl, hVb, hVw, rfl, huq⟩ | ⟨f, g, args, r, hse, hgo, hx, rfl, hVb, hVw⟩ | ⟨f, fi, args, r, blk, hse, hgo, hx, how, hVb, hVw, rfl⟩ | ⟨r, hse, hco, rfl, hVb, hVw, rfl, huq⟩ | ⟨jg, want, dg, bx, pc1, hg, hdg, hbx, hpc1, hVb, hVw, hcase⟩
 ·-- a new block
  obtain ⟨obj, v, r1, r2⟩ := MI hC (w := w) (mF fun t ht => hs t (f8 _ _ t ht)) har hck
  have hEn : E (nx0 + i) = none := (fresh i hiL hit).1
  obtain ⟨r3, r4⟩ := r2 (nx0 + i) hEn
  have hle := Emb.le_set (x := (w.heap.size, ar.K)) hEn
  have hnone : ∀ b, hp.get (nx0 + i) ≠ some b := fun b h => by obtain ⟨B, K, hE, _⟩ := hH.cell _ _ h; rw [hEn] at hE; cases hE
  have hkeep : ∀ k b, hp.get k = some b → (hp.set (nx0 + i) (some ar.blk)).get k = some b := fun k b h => by
   rw [T.get_set_ne _ _ _ _ (fun e => by subst e; exact hnone b h)]; exact h
  have hH' := hH.alloc (o := obj) (b := ar.blk) (K := ar.K) (n := nx0 + i) (m := top) hEn hit (Nat.le_refl _) hH.lim hH.free r3 (MH har)
  have hwk : ∀ k x c, (L k ∨ k = i) → V.w k = some (x, c) → L k := fun k x c hk h => by
   rcases hk with hk | rfl
   ·exact hk
   ·rw [hVw] at h; cases h
  refine ⟨hpc, fun a' w' => a' = a.put o.dst v ∧ w' = w.alloc obj, ⟨_, _, rfl, rfl⟩, ?_, ?_⟩
  ·rintro a' w' ⟨rfl, rfl⟩
   refine ⟨E.set (nx0 + i) (w.heap.size, ar.K), ag.trans ((aH.set E (nx0 + i) _).less (by omega)) (Nat.le_refl _), oldput v hle, rcput v hle r4, ⟨hp.set (nx0 + i) (some ar.blk), ?_, ?_, ?_, hH'⟩, ?_, szput v, dfput v, bl.alloc hH.bot _⟩
   ·exact fun k b h hno => hkeep k b (hp1 k b h fun j c hj => hno j c (.inl hj))
   ·intro j b hj hb hno
    rcases hj with hj | rfl
    ·exact hkeep _ _ (hp2 j b hj hb fun k c hk => hno k c (.inl hk))
    ·rw [hVb] at hb; cases hb
     exact T.get_set_same _ _ _ (by have := hH.lim; omega)
   ·exact fun k x c hk h => hkeep x c (hp3 k x c (hwk k x c hk h) h)
   ·intro j hj hjt
    refine ⟨?_, (fresh j (fun h => hj (.inl h)) hjt).2⟩
    rw [Emb.set_ne _ _ (by intro e; exact hj (.inr (by omega)))]
    exact (fresh j (fun h => hj (.inl h)) hjt).1
  ·intro Q K hK
   unfold wpOpIn
   simp only [ho, Region.wanted, hg, if_true]
   exact eN r1 (hK _ _ ⟨rfl, rfl⟩)
 ·have hHi : aD η E hpi top lo base w := hH.sub (hsees hse)
  obtain ⟨g1, v, g2, S, s1, s2, s3⟩ := N8 (ro := ro) (m := m) hC hih (st := ⟨tm, hpi, top, lo, pc⟩) hpc hx hHi hs ho
  refine ⟨g1, fun a' w' => a' = a.put o.dst v ∧ S w', ?_, ?_, ?_⟩
  ·obtain ⟨w', hw'⟩ := s1; exact ⟨_, w', rfl, hw'⟩
  ·rintro a' w' ⟨rfl, hw'⟩
   have hb := s2 w' hw'
   refine ⟨E, ag, oldput v (Emb.le.refl _), rcput v (Emb.le.refl _) g2, ⟨hp, fun k b h hno => hp1 k b h fun j c hj => hno j c (.inl hj), ?_, ?_, hH.below hb⟩, frput, szput v, dfput v, bl.trans (hb.mono hH.bot)⟩
   ·intro j b hj hbj hno
    rcases hj with hj | rfl
    ·exact hp2 j b hj hbj fun k c hk => hno k c (.inl hk)
    ·rw [hVb] at hbj; cases hbj
   ·intro k x c hk h
    rcases hk with hk | rfl
    ·exact hp3 k x c hk h
    ·rw [hVw] at h; cases h
  ·intro Q K hK
   exact s3 Q K fun w' hw' => hK _ _ ⟨rfl, hw'⟩
 ·-- a store
  obtain ⟨w', r1, r2, r3⟩ := SN hC hH bl hop (mF fun t ht => hs t (f8 _ _ t ht)) (hsees hse) hst
  obtain ⟨b0, hb0⟩ := SM hst
  have hb0' := hsees hse _ _ hb0
  have hlt : r.1 < 65535 := by have := hH.dom _ _ hb0'; have := hH.lim; omega
  refine ⟨hpc, fun a' w'' => a' = a.put o.dst undef ∧ w'' = w', ⟨_, _, rfl, rfl⟩, ?_, ?_⟩
  ·rintro a' w'' ⟨rfl, rfl⟩
   refine ⟨E, ag, oldput undef (Emb.le.refl _), rcput undef (Emb.le.refl _) rfl, ⟨hp.set r.1 (some r.2), ?_, ?_, ?_, r2⟩, frput, szput undef, dfput undef, r3⟩
   ·intro k b h hno
    have hne : r.1 ≠ k := fun e => by subst e; exact hno i r.2 (.inr rfl) hVw
    rw [T.get_set_ne _ _ _ _ hne]
    exact hp1 k b h fun j c hj => hno j c (.inl hj)
   ·intro j b hj hbj hno
    rcases hj with hj | rfl
    ·have hne : r.1 ≠ nx0 + j := fun e => hno i r.2 (.inr rfl) (by rw [hVw, ← e])
     rw [T.get_set_ne _ _ _ _ hne]
     exact hp2 j b hj hbj fun k c hk => hno k c (.inl hk)
    ·rw [hVb] at hbj; cases hbj
   ·intro k y c hk h
    rcases hk with hk | rfl
    ·have hki : k ≠ i := fun e => by subst e; exact hiL hk
     have hne := huq k y c (hLn k hk) hki h
     rw [T.get_set_ne _ _ _ _ (Ne.symm hne)]
     exact hp3 k y c hk h
    ·rw [hVw] at h
     cases h
     exact T.get_set_same _ _ _ hlt
  ·intro Q K hK
   unfold wpOpIn
   simp only [ho, Region.wanted, hg, if_true]
   exact nM r1 (hK _ _ ⟨rfl, rfl⟩)

 ·-- a call that hands back memory of its own
  have hHi : aD η E hpi top lo base w := hH.sub (hsees hse)
  obtain ⟨hg, hgs, vs, hvs, hexec⟩ := MP (P := P) hgo (mF fun t ht => hs t (f8 _ _ t ht))
  obtain ⟨g1, g2⟩ := pY hC hgs (top := top) hx hpc
  obtain ⟨k1, k3⟩ := g2 E _ _ w vs hHi (hH.rfree _ (Nat.le_succ _)) hvs
  have k2 := k3 (nx0 + i) (by omega) (fresh i hiL hit).2
  refine ⟨g1, fun a' w' => ∃ v rr, a' = a.put o.dst v ∧ Below w.heap.size w w' ∧ (∀ j u, rr j = some u → nO w.heap.size u) ∧ (jA (nx0 + i) r).den η (addE E w w' rr (nx0 + i)) = some v, ?_, ?_, ?_⟩
  ·obtain ⟨e, w', v, rr, _, hb, hnw, hd⟩ := Calls.exists k2
   exact ⟨_, w', v, rr, rfl, hb, hnw, hd⟩
  ·rintro a' w' ⟨v, rr, rfl, hb, hnw, hsd⟩
   obtain ⟨q1, q2⟩ := hH.addE (n := nx0 + i) (m := top) (rr := rr) hb hit (Nat.le_refl _) hH.lim (fresh i hiL hit).2 hH.free hH.rfree hnw
   refine ⟨addE E w w' rr (nx0 + i), ag.trans ⟨fun _ _ => rfl, (fun k hk j => by simp only [addE]; rw [if_neg (by omega)]), q1.z, fun _ _ h => h, rfl, fun _ _ _ => rfl⟩ (Nat.le_refl _), oldput v q1, rcput v q1 hsd, ⟨hp, fun k b h hno => hp1 k b h fun j c hj => hno j c (.inl hj), ?_, ?_, q2⟩, ?_, szput v, dfput v, bl.trans (hb.mono hH.bot)⟩
   ·intro j b hj hbj hno
    rcases hj with hj | rfl
    ·exact hp2 j b hj hbj fun k c hk => hno k c (.inl hk)
    ·rw [hVb] at hbj; cases hbj
   ·intro k x c hk h
    rcases hk with hk | rfl
    ·exact hp3 k x c hk h
    ·rw [hVw] at h; cases h
   ·intro j hj hjt
    refine ⟨(frput j hj hjt).1, fun k => ?_⟩
    simp only [addE]
    rw [if_neg (fun e => hj (.inr (by omega)))]
    exact (frput j hj hjt).2 k
  ·intro Q K hK
   unfold wpOpIn
   simp only [ho, Region.wanted, hg, if_true]
   refine nN ((hexec w).trans k1) (k2.mono ?_)
   rintro e w' ⟨v, rr, rfl, hb, hnw, hd⟩
   exact ⟨v, rfl, hK _ _ ⟨v, rr, rfl, hb, hnw, hd⟩⟩
 ·-- a call whose own memory is taken up
  have hHi : aD η E hpi top lo base w := hH.sub (hsees hse)
  obtain ⟨hg, hfi, vs, hvs, hexec⟩ := SK (P := P) hgo (mF fun t ht => hs t (f8 _ _ t ht))
  have hF := hC.ft f fi hfi
  have k2 := PS hC hih hx hF hpc (Nat.le_refl _) E.z00 w.heap.size w w vs hHi.z00 (Below.refl _ _) (dN E.le_z00 hvs)
  have hEn : E (nx0 + i) = none := (fresh i hiL hit).1
  have hnone : ∀ b, hp.get (nx0 + i) ≠ some b := fun b h => by obtain ⟨B, K, hE, _⟩ := hH.cell _ _ h; rw [hEn] at hE; cases hE
  have hkeep : ∀ k b, hp.get k = some b → (hp.set (nx0 + i) (some blk)).get k = some b := fun k b h => by
   rw [T.get_set_ne _ _ _ _ (fun e => by subst e; exact hnone b h)]; exact h
  have hwk : ∀ k x c, (L k ∨ k = i) → V.w k = some (x, c) → L k := fun k x c hk h => by
   rcases hk with hk | rfl
   ·exact hk
   ·rw [hVw] at h; cases h
  obtain ⟨e0, w00, v0, E00, _, _, _, _, _, hpc0, _⟩ := Calls.exists k2
  refine ⟨hpc0, fun a' w' => ∃ v E', a' = a.put o.dst v ∧ r.1.den η E' = some v ∧ aD η E' r.2.hp r.2.nx top w.heap.size w' ∧ Below w.heap.size w w', ?_, ?_, ?_⟩
  ·obtain ⟨e, w', v, E', _, q1, _, q3, q4, _, _⟩ := Calls.exists k2
   exact ⟨_, w', v, E', rfl, q1, q3, q4⟩
  ·rintro a' w' ⟨v, E', rfl, q1, q3, hb⟩
   obtain ⟨B, K, hH', r4⟩ := D3 hH hb how q3 hEn hit q1
   have hle := Emb.le_set (x := (B, K)) hEn
   refine ⟨E.set (nx0 + i) (B, K), ag.trans ((aH.set E (nx0 + i) _).less (by omega)) (Nat.le_refl _), oldput v hle, rcput v hle r4, ⟨hp.set (nx0 + i) (some blk), ?_, ?_, ?_, hH'⟩, ?_, szput v, dfput v, bl.trans (hb.mono hH.bot)⟩
   ·exact fun k b h hno => hkeep k b (hp1 k b h fun j c hj => hno j c (.inl hj))
   ·intro j b hj hbj hno
    rcases hj with hj | rfl
    ·exact hkeep _ _ (hp2 j b hj hbj fun k c hk => hno k c (.inl hk))
    ·rw [hVb] at hbj; cases hbj
     exact T.get_set_same _ _ _ (by have := hH.lim; omega)
   ·exact fun k x c hk h => hkeep x c (hp3 k x c (hwk k x c hk h) h)
   ·intro j hj hjt
    refine ⟨?_, (fresh j (fun h => hj (.inl h)) hjt).2⟩
    rw [Emb.set_ne _ _ (by intro e; exact hj (.inr (by omega)))]
    exact (fresh j (fun h => hj (.inl h)) hjt).1
  ·intro Q K hK
   unfold wpOpIn
   simp only [ho, Region.wanted, hg, if_true]
   refine nN ((hexec w).trans (cA hF _ w)) (k2.mono ?_)
   rintro e w' ⟨v, E', rfl, q1, _, q3, q4, _, _⟩
   exact ⟨v, rfl, hK _ _ ⟨v, E', rfl, q1, q3, q4⟩⟩
 ·-- a copy
  obtain ⟨hg, _, ⟨b0, hb0⟩, w', r1, r2, r3⟩ := SL (P := P) hC hH bl (hsees hse) hco (mF fun t ht => hs t (f8 _ _ t ht))
  have hb0' := hsees hse _ _ hb0
  have hlt : r.1 < 65535 := by have := hH.dom _ _ hb0'; have := hH.lim; omega
  have hsd : (Sv.one (.int .i64 (.lit (.ofNat r.2.2)))).den η E = some (goInt r.2.2) := by simp [Sv.den, Sc.den, Ix.den, goInt]
  refine ⟨hpc, fun a' w'' => a' = a.put o.dst (goInt r.2.2) ∧ w'' = w', ⟨_, _, rfl, rfl⟩, ?_, ?_⟩
  ·rintro a' w'' ⟨rfl, rfl⟩
   refine ⟨E, ag, oldput _ (Emb.le.refl _), rcput _ (Emb.le.refl _) hsd, ⟨hp.set r.1 (some r.2.1), ?_, ?_, ?_, r2⟩, frput, szput _, dfput _, r3⟩
   ·intro k b h hno
    have hne : r.1 ≠ k := fun e => by subst e; exact hno i r.2.1 (.inr rfl) hVw
    rw [T.get_set_ne _ _ _ _ hne]
    exact hp1 k b h fun j c hj => hno j c (.inl hj)
   ·intro j b hj hbj hno
    rcases hj with hj | rfl
    ·have hne : r.1 ≠ nx0 + j := fun e => hno i r.2.1 (.inr rfl) (by rw [hVw, ← e])
     rw [T.get_set_ne _ _ _ _ hne]
     exact hp2 j b hj hbj fun k c hk => hno k c (.inl hk)
    ·rw [hVb] at hbj; cases hbj
   ·intro k y c hk h
    rcases hk with hk | rfl
    ·have hki : k ≠ i := fun e => by subst e; exact hiL hk
     have hne := huq k y c (hLn k hk) hki h
     rw [T.get_set_ne _ _ _ _ (Ne.symm hne)]
     exact hp3 k y c hk h
    ·rw [hVw] at h
     cases h
     exact T.get_set_same _ _ _ hlt
  ·intro Q K hK
   unfold wpOpIn
   simp only [ho, Region.wanted, hg, if_true]
   exact eN r1 (hK _ _ ⟨rfl, rfl⟩)
 ·-- a bF call that hands back memory of its own
  obtain ⟨vg, hv1, hv2⟩ := hs dg (by unfold eF; rw [hg]; simp only [hdg]; exact List.mem_cons_self ..) _ hbx
  simp only [Sv.den, Sc.den, Option.some.injEq] at hv2
  subst hv2
  have hy : yielded ops a.tmps jg = some (bx.den η) := by
   unfold lH at hdg
   rw [cI, Array.getElem?_toList] at hdg
   unfold yielded
   cases hoj : ops[jg]? with
   | none => rw [hoj] at hdg; cases hdg
   | some oj =>
    rw [hoj] at hdg
    simp only at hdg
    simp [hdg, hv1]
  have hwant : Region.wanted o (yielded ops a.tmps) = (bx.den η == want) := by
   simp only [Region.wanted, hg, hy]; rfl
  rcases hcase with ⟨he, f, g, args, r, hse, hgo, hx, rfl⟩ | ⟨he, rfl, rfl⟩
  ·have hHi : aD η E hpi top lo base w := hH.sub (hsees hse)
   obtain ⟨_, hgs, vs, hvs, hexec⟩ := MP (P := P) (o := { o with guard := none }) hgo (mF fun t ht => hs t (f8 _ _ t ht))
   have hexec : ∀ w, (execOp a.eval o).run P w = (callFunc f vs.toArray).run P w := fun w => hexec w
   obtain ⟨g1, g2⟩ := pY hC hgs (top := top) hx hpc1
   obtain ⟨k1, k3⟩ := g2 E _ _ w vs hHi (hH.rfree _ (Nat.le_succ _)) hvs
   have k2 := k3 (nx0 + i) (by omega) (fresh i hiL hit).2
   refine ⟨g1, fun a' w' => ∃ v rr, a' = a.put o.dst v ∧ Below w.heap.size w w' ∧ (∀ j u, rr j = some u → nO w.heap.size u) ∧ (jA (nx0 + i) r).den η (addE E w w' rr (nx0 + i)) = some v, ?_, ?_, ?_⟩
   ·obtain ⟨e, w', v, rr, _, hb, hnw, hd⟩ := Calls.exists k2
    exact ⟨_, w', v, rr, rfl, hb, hnw, hd⟩
   ·rintro a' w' ⟨v, rr, rfl, hb, hnw, hsd⟩
    obtain ⟨q1, q2⟩ := hH.addE (n := nx0 + i) (m := top) (rr := rr) hb hit (Nat.le_refl _) hH.lim (fresh i hiL hit).2 hH.free hH.rfree hnw
    refine ⟨addE E w w' rr (nx0 + i), ag.trans ⟨fun _ _ => rfl, (fun k hk j => by simp only [addE]; rw [if_neg (by omega)]), q1.z, fun _ _ h => h, rfl, fun _ _ _ => rfl⟩ (Nat.le_refl _), oldput v q1, rcput v q1 hsd, ⟨hp, fun k b h hno => hp1 k b h fun j c hj => hno j c (.inl hj), ?_, ?_, q2⟩, ?_, szput v, dfput v, bl.trans (hb.mono hH.bot)⟩
    ·intro j b hj hbj hno
     rcases hj with hj | rfl
     ·exact hp2 j b hj hbj fun k c hk => hno k c (.inl hk)
     ·rw [hVb] at hbj; cases hbj
    ·intro k x c hk h
     rcases hk with hk | rfl
     ·exact hp3 k x c hk h
     ·rw [hVw] at h; cases h
    ·intro j hj hjt
     refine ⟨(frput j hj hjt).1, fun k => ?_⟩
     simp only [addE]
     rw [if_neg (fun e => hj (.inr (by omega)))]
     exact (frput j hj hjt).2 k
   ·intro Q K hK
    unfold wpOpIn
    simp only [ho, hwant, he, if_true]
    refine nN ((hexec w).trans k1) (k2.mono ?_)
    rintro e w' ⟨v, rr, rfl, hb, hnw, hd⟩
    exact ⟨v, rfl, hK _ _ ⟨v, rr, rfl, hb, hnw, hd⟩⟩
  ·refine ⟨hpc1, fun a' w' => a' = a.put o.dst undef ∧ w' = w, ⟨_, _, rfl, rfl⟩, ?_, ?_⟩
   ·rintro a' w' ⟨rfl, rfl⟩
    refine ⟨E, ag, oldput _ (Emb.le.refl _), rcput _ (Emb.le.refl _) rfl, ⟨hp, fun k b h hno => hp1 k b h fun j c hj => hno j c (.inl hj), ?_, ?_, hH⟩, frput, szput _, dfput _, bl⟩
    ·intro j b hj hbj hno
     rcases hj with hj | rfl
     ·exact hp2 j b hj hbj fun k c hk => hno k c (.inl hk)
     ·rw [hVb] at hbj; cases hbj
    ·intro k x c hk h
     rcases hk with hk | rfl
     ·exact hp3 k x c hk h
     ·rw [hVw] at h; cases h
   ·intro Q K hK
    unfold wpOpIn
    simp only [ho, hwant, he, Bool.false_eq_true, if_false]
    exact ⟨fun _ _ => trivial, hK _ _ ⟨rfl, rfl⟩⟩

end
end Go.Ex

