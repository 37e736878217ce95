/-
 That the executor of regions that draw their order is right: any order.
-/
import Derived.Test.YtdpabnfcfakjeaaEx19

namespace Go.Ex
open Go Go.RowKit
noncomputable section
variable {ro : Option Nat} {m : Nat}

/-- What the text of a region is known to be like. -/
structure jK (ops : Array Oper) (n : Nat) : Prop where
 uniq : ∀ i j oi oj d, i < n → j < n → ops[i]? = some oi → ops[j]? = some oj → oi.dst = some d → oj.dst = some d → i = j
 slot : ∀ i o t, i < n → ops[i]? = some o → t ∈ eF ops.toList o → ∀ k ok, k < n → ops[k]? = some ok → ok.dst = some t → k ∈ cZ o ∨ i ∈ cZ ok ∨ k = i
 le : n ≤ ops.size
 ord : g9 ops.toList n (CA n ops.toList) [] = true
 all : ∀ i, i < n → i ∈ CA n ops.toList
 tail : n = ops.size ∨ (Region.sinkB .any ops n = true ∧ Region.chainB .any ops n = true ∧ n < ops.size ∧ ∀ t o, n ≤ t → ops[t]? = some o → ∀ j ∈ cZ o, j < t)

theorem o0 {l : List Nat} {i : Nat} : (l.any fun k => Nat.beq k i) = true ↔ i ∈ l := by
 rw [List.any_eq_true]
 exact ⟨fun ⟨k, hk, h⟩ => by rw [← Nat.eq_of_beq_eq_true h]; exact hk, fun h => ⟨i, h, by simp⟩⟩

theorem jE {ops : Array Oper} {n i : Nat} {l done : List Nat} (h : g9 ops.toList n (i :: l) done = true) : i < n ∧ i ∉ done ∧ (∃ o, ops[i]? = some o ∧ (∀ j ∈ cZ o, j ∈ done) ∧ (g8 o = true → ∀ j ∈ done, j ∈ gH ops.toList o)) ∧ g9 ops.toList n l (i :: done) = true := by
 simp only [g9, Bool.and_eq_true] at h
 obtain ⟨⟨⟨h1, h2⟩, h3⟩, h4⟩ := h
 refine ⟨Nat.le_of_ble_eq_true h1, fun hm => ?_, ?_, h4⟩
 ·have := o0.2 hm
  rw [this] at h2; cases h2
 ·split at h3
  ·rename_i o ho
   rw [cI, Array.getElem?_toList] at ho
   simp only [Bool.and_eq_true, Bool.or_eq_true] at h3
   refine ⟨o, ho, fun j hj => o0.1 (List.all_eq_true.1 h3.1 j hj), fun hs j hj => ?_⟩
   rcases h3.2 with h | h
   ·rw [hs] at h; cases h
   ·exact o0.1 (List.all_eq_true.1 h j hj)
  ·cases h3

theorem CC {ops : Array Oper} {n : Nat} {S : Nat → Prop} : ∀ (l done : List Nat), g9 ops.toList n l done = true → (∀ k ∈ done, S k) → (∃ i ∈ l, ¬ S i) → ∃ i o, i ∈ l ∧ ¬ S i ∧ ops[i]? = some o ∧ ∀ j ∈ cZ o, S j
 | [], _, _, _, ⟨i, hi, _⟩ => by cases hi
 | i :: l, done, h, hS, ⟨k, hk, hkS⟩ => by
  obtain ⟨_, _, ⟨o, ho, ha, _⟩, h4⟩ := jE h
  by_cases hSi : S i
  ·have hk' : k ∈ l := by
    cases hk with
    | head => exact absurd hSi hkS
    | tail _ hk => exact hk
   obtain ⟨m, om, q1, q2, q3, q4⟩ := CC l (i :: done) h4 (fun j hj => by
    cases hj with
    | head => exact hSi
    | tail _ hj => exact hS j hj) ⟨k, hk', hkS⟩
   exact ⟨m, om, List.mem_cons_of_mem _ q1, q2, q3, q4⟩
  ·exact ⟨i, o, List.mem_cons_self .., hSi, ho, fun j hj => hS j (ha j hj)⟩

theorem MR {ops : Array Oper} {n : Nat} : ∀ (l done : List Nat), g9 ops.toList n l done = true → (∀ k ∈ done, k < n) → ∀ i ∈ l, ∀ o, ops[i]? = some o → ∀ j ∈ cZ o, j < n
 | [], _, _, _, i, hi, _, _, _, _ => by cases hi
 | k :: l, done, h, hd, i, hi, o, ho, j, hj => by
  obtain ⟨h1, _, ⟨ok, hok, ha, _⟩, h4⟩ := jE h
  cases hi with
  | head =>
   have : ok = o := Option.some.inj (hok.symm.trans ho)
   subst this
   exact hd j (ha j hj)
  | tail _ hi => exact MR l (k :: done) h4 (fun m hm => by
    cases hm with
    | head => exact h1
    | tail _ hm => exact hd m hm) i hi o ho j hj

def bG.set (V : bG) (i : Nat) (s : Sv) (b : Option Blk) (w : Option (Nat × Blk)) : bG := ⟨fun k => if k = i then some s else V.v k, fun k => if k = i then b else V.b k, fun k => if k = i then w else V.w k⟩

theorem Inv.mono {η : Env} {ops : Array Oper} {E0 : Emb} {nx0 top lo base nt : Nat} {w0 : World} {tm0 : T Sv} {hp0 : T Blk} {V V' : bG} {L : Nat → Prop} {E : Emb} {a : Act} {w : World} (h : Inv η ops E0 nx0 top lo base nt w0 tm0 hp0 V L E a w)
  (hV : ∀ k, L k → V'.v k = V.v k ∧ V'.b k = V.b k ∧ V'.w k = V.w k) : Inv η ops E0 nx0 top lo base nt w0 tm0 hp0 V' L E a w := by
 obtain ⟨ag, old, rc, ⟨hp, hp1, hp2, hp3, hH⟩, fresh, sz, df, bl⟩ := h
 refine ⟨ag, old, fun i o d hL ho hd => ?_, ⟨hp, fun i b h hno => hp1 i b h fun k c hk => ?_, fun i b hL hb hno => hp2 i b hL ?_ fun k c hk => ?_, fun k x c hk hw => ?_, hH⟩, fresh, sz, df, bl⟩
 ·rw [(hV i hL).1]; exact rc i o d hL ho hd
 ·have := hno k c hk; rwa [(hV k hk).2.2] at this
 ·rw [← (hV i hL).2.1]; exact hb
 ·have := hno k c hk; rwa [(hV k hk).2.2] at this
 ·rw [(hV k hk).2.2] at hw; exact hp3 k x c hk hw

/-- A word about an operation that is eG stays so when the next one is gone through. -/
theorem OA.mono {C : Cx} {η : Env} {ih : FI → List Sv → St → aA (Sv × St)} {ops : Array Oper} {n nx0 top lo : Nat} {tm0 : T Sv} {hp0 : T Blk} {V : bG} {done : List Nat} {j i : Nat} {oj o : Oper} {pc pc' : PC} {s : Sv} {b : Option Blk} {wr : Option (Nat × Blk)}
  (h : OA C η ih ops n nx0 top lo tm0 hp0 V j oj pc pc') (hj : j ∈ done) (hc : p7 ops (· ∈ done)) (hi : i ∉ done) (hoj : ops[j]? = some oj) (ho : ops[i]? = some o)
  (hw : ∀ x c, wr = some (x, c) → j ∈ gH ops.toList o ∧ ∀ r, V.w j = some r → x ≠ r.1) : OA C η ih ops n nx0 top lo tm0 hp0 (V.set i s b wr) j oj pc pc' := by
 obtain ⟨tm, hpi, sv, h1, h2, h3⟩ := h.says
 have ha : ∀ k ∈ cZ oj, k ∈ done := hc j oj hj hoj
 have hne : ∀ k, k ∈ done → k ≠ i := fun k hk e => by subst e; exact hi hk
 have hji := hne j hj
 have hs : BR ops n nx0 hp0 V j oj hpi → BR ops n nx0 hp0 (V.set i s b wr) j oj hpi := by
  intro hse x c hx
  rcases hse x c hx with ⟨k, hk, hwk⟩ | ⟨hb, hno⟩
  ·have := hne k (lI hc ha k hk)
   exact .inl ⟨k, hk, by simp [bG.set, this, hwk]⟩
  ·refine .inr ⟨?_, fun k ok d hk hok hwk => ?_⟩
   ·rcases hb with hb | ⟨k, hk, hb, hxe⟩
    ·exact .inl hb
    ·have := hne k (lI hc ha k hk)
     exact .inr ⟨k, hk, by simp [bG.set, this, hb], hxe⟩
   ·by_cases hki : k = i
    ·subst hki
     have : ok = o := Option.some.inj (hok.symm.trans ho)
     subst this
     simp only [bG.set, if_true] at hwk
     exact .inl (hw x d hwk).1
    ·simp only [bG.set, hki, if_false] at hwk
     exact hno k ok d hk hok hwk
 refine ⟨tm, hpi, sv, by simp [bG.set, hji, h1], fun t ht x hx => ?_, ?_⟩
 ·rcases h2 t ht x hx with ⟨k, ok, q1, q2, q3, q4⟩ | q
  ·have := hne k (ha k q1)
   exact .inl ⟨k, ok, q1, q2, q3, by simp [bG.set, this, q4]⟩
  ·exact .inr q
 ·rcases h3 with ⟨ar, q1, q2, q2', q3, q4, q5, q6⟩ | ⟨q1, q2, q3, q4⟩ | ⟨t, x, v, r, q1, q2, q3, q4, q5, q6, q7, q8, q9⟩ | ⟨f, g, args, r, q1, q2, q3, q4, q5, q6⟩ | ⟨f, fi, args, r, blk, q1, q2, q3, q4, q5, q6, q7⟩ | ⟨r, q1, q2, q3, q4, q5, q6, q7⟩ | ⟨jg, want, dg, bx, pc1, q1, q2, q3, q4, q5, q6, q7⟩
  ·exact .inl ⟨ar, q1, q2, q2', q3, by simp [bG.set, hji, q4], by simp [bG.set, hji, q5], q6⟩
  ·exact .inr (.inl ⟨hs q1, q2, by simp [bG.set, hji, q3], by simp [bG.set, hji, q4]⟩)
  ·refine .inr (.inr (.inl ⟨t, x, v, r, hs q1, q2, q3, q4, q5, by simp [bG.set, hji, q6], by simp [bG.set, hji, q7], q8, fun k y c hk hkj hwk => ?_⟩))
   by_cases hki : k = i
   ·subst hki
    simp only [bG.set, if_true] at hwk
    exact (hw y c hwk).2 r q7
   ·simp only [bG.set, hki, if_false] at hwk
    exact q9 k y c hk hkj hwk
  ·exact .inr (.inr (.inr (.inl ⟨f, g, args, r, hs q1, q2, q3, q4, by simp [bG.set, hji, q5], by simp [bG.set, hji, q6]⟩)))
  ·exact .inr (.inr (.inr (.inr (.inl ⟨f, fi, args, r, blk, hs q1, q2, q3, q4, by simp [bG.set, hji, q5], by simp [bG.set, hji, q6], q7⟩))))
  ·refine .inr (.inr (.inr (.inr (.inr (.inl ⟨r, hs q1, q2, q3, by simp [bG.set, hji, q4], by simp [bG.set, hji, q5], q6, fun k y c hk hkj hwk => ?_⟩)))))
   by_cases hki : k = i
   ·subst hki
    simp only [bG.set, if_true] at hwk
    exact (hw y c hwk).2 (r.1, r.2.1) q5
   ·simp only [bG.set, hki, if_false] at hwk
    exact q7 k y c hk hkj hwk
  ·refine .inr (.inr (.inr (.inr (.inr (.inr ⟨jg, want, dg, bx, pc1, q1, q2, q3, q4, by simp [bG.set, hji, q5], by simp [bG.set, hji, q6], ?_⟩)))))
   rcases q7 with ⟨e, f, g, args, r, p1, p2, p3, p4⟩ | q7
   ·exact .inl ⟨e, f, g, args, r, hs p1, p2, p3, p4⟩
   ·exact .inr q7

theorem OB {nt : Nat} {d : Option Tmp} {s : Sv} {tm tm' : T Sv} (h : vR nt d s tm = some tm') (hnt : nt ≤ 60000) : (∀ e, d = some e → e < nt) ∧ ∀ t x, tm'.get t = some x → (d = some t ∧ x = s) ∨ (d ≠ some t ∧ tm.get t = some x) := by
 cases d with
 | none => cases h; exact ⟨fun e he => (by cases he), fun t x hx => .inr ⟨by simp, hx⟩⟩
 | some d =>
  simp only [vR] at h
  cases hb : Nat.blt d nt with
  | false => rw [hb] at h; cases h
  | true =>
   rw [hb] at h; cases h
   have hb : d < nt := Nat.le_of_ble_eq_true hb
   have hb' : d < 65535 := Nat.lt_of_lt_of_le hb (by omega)
   refine ⟨fun e he => (by cases he; exact hb), fun t x hx => ?_⟩
   by_cases hdt : d = t
   ·subst hdt
    rw [T.get_set_same _ _ _ hb'] at hx
    cases hx; exact .inl ⟨rfl, rfl⟩
   ·rw [T.get_set_ne _ _ _ _ hdt] at hx
    exact .inr ⟨by simpa using hdt, hx⟩

/-- What is known while the executor goes through a head: 'done' is eG it. -/
structure Run (C : Cx) (η : Env) (ih : FI → List Sv → St → aA (Sv × St)) (ops : Array Oper) (n nt top : Nat) (st : St) (V : bG) (done : List Nat) (tm : T Sv) (bk : T Blk) (wl : List Wr) : Prop where
 tm : ∀ t s, tm.get t = some s → (∃ k ok, k ∈ done ∧ ops[k]? = some ok ∧ ok.dst = some t ∧ V.v k = some s) ∨ (st.tm.get t = some s ∧ ∀ k ok, k ∈ done → ops[k]? = some ok → ok.dst ≠ some t)
 bk : ∀ k b, bk.get k = some b → k ∈ done ∧ V.b k = some b
 wk : ∀ r ∈ wl, r.k ∈ done ∧ V.w r.k = some (r.x, r.c) ∧ r.x < 65535
 wr : ∀ k x c, V.w k = some (x, c) → k ∈ done ∧ ∃ r ∈ wl, r.k = k ∧ r.x = x ∧ r.c = c
 word : ∀ i ∈ done, ∃ o pc pc', ops[i]? = some o ∧ pc.holds η ∧ (∀ d, o.dst = some d → d < nt) ∧ OA C η ih ops n st.nx top st.lo st.tm st.hp V i o pc pc'
 closed : p7 ops (· ∈ done)
 lt : ∀ i ∈ done, i < n

theorem tJ {hp : T Blk} : ∀ {l : List (Nat × Blk)}, (∀ p ∈ l, p.1 < 65535) → ∀ x b, (f7 hp l).get x = some b → (∃ p ∈ l, p = (x, b)) ∨ hp.get x = some b
 | [], _, x, b, h => .inr h
 | p :: l, hl, x, b, h => by
  simp only [f7] at h
  by_cases hpx : p.1 = x
  ·subst hpx
   rw [T.get_set_same _ _ _ (hl p (List.mem_cons_self ..))] at h
   cases h
   exact .inl ⟨p, List.mem_cons_self .., rfl⟩
  ·rw [T.get_set_ne _ _ _ _ hpx] at h
   rcases tJ (fun q hq => hl q (List.mem_cons_of_mem _ hq)) x b h with ⟨q, hq, e⟩ | h
   ·exact .inl ⟨q, List.mem_cons_of_mem _ hq, e⟩
   ·exact .inr h

theorem GT {anc : List Nat} {hp : T Blk} : ∀ {wl : List Wr}, (∀ r ∈ wl, r.x < 65535) → ∀ x b, (pG anc hp wl).get x = some b → (∃ r ∈ wl, r.k ∈ anc ∧ r.x = x ∧ r.c = b) ∨ (hp.get x = some b ∧ ∀ r ∈ wl, r.x ≠ x)
 | [], _, x, b, h => .inr ⟨h, fun _ h => by cases h⟩
 | r :: wl, hl, x, b, h => by
  simp only [pG] at h
  by_cases hrx : r.x = x
  ·subst hrx
   rw [T.get_set_same _ _ _ (hl r (List.mem_cons_self ..))] at h
   cases hc : (anc.any fun k => Nat.beq k r.k) with
   | false => rw [hc] at h; cases h
   | true => rw [hc] at h; cases h; exact .inl ⟨r, List.mem_cons_self .., o0.1 hc, rfl, rfl⟩
  ·rw [T.get_set_ne _ _ _ _ hrx] at h
   rcases GT (fun q hq => hl q (List.mem_cons_of_mem _ hq)) x b h with ⟨q, hq, e⟩ | ⟨h, hno⟩
   ·exact .inl ⟨q, List.mem_cons_of_mem _ hq, e⟩
   ·refine .inr ⟨h, fun q hq => ?_⟩
    cases hq with
    | head => exact hrx
    | tail _ hq => exact hno q hq

theorem yA {C : Cx} {P : Program} {η : Env} (hC : C.Ok P η) {ih : FI → List Sv → St → aA (Sv × St)} (hih : eR P η ih) {ops : Array Oper}
  {E0 : Emb} {top base nt n : Nat} {w0 : World} {st : St} (hnt : nt ≤ 60000) (htop : top = st.nx + n) (hlim : top ≤ 65000) (hF : jK ops n) : ∀ (l done : List Nat) (V : bG) (tm : T Sv) (bk : T Blk) (wl : List Wr) (pc : PC) (tm' : T Sv) (bk' : T Blk) (wl' : List Wr) (pc' : PC), g9 ops.toList n l done = true →
  (fL C ih nt ops.toList st top l tm bk wl pc).at_ η = some (tm', bk', wl', pc') → pc.holds η → Run C η ih ops n nt top st V done tm bk wl →
  (∃ E a w, Inv η ops E0 st.nx top st.lo base nt w0 st.tm st.hp V (· ∈ done) E a w) →
  pc'.holds η ∧ ∃ V' done', Run C η ih ops n nt top st V' done' tm' bk' wl' ∧ ∀ i, i ∈ done ∨ i ∈ l → i ∈ done'
 | [], done, V, tm, bk, wl, pc, tm', bk', wl', pc', _, h, hpc, hR, _ => by
  cases h
  exact ⟨hpc, V, done, hR, fun i hi => hi.resolve_right (fun h => by cases h)⟩
 | i :: l, done, V, tm, bk, wl, pc, tm', bk', wl', pc', hord, h, hpc, hR, hI => by
  obtain ⟨hin, hnot, ⟨o, ho, haft, hstore⟩, hord'⟩ := jE hord
  simp only [fL] at h
  rw [cI, Array.getElem?_toList, ho] at h
  simp only at h
  have hwi : V.w i = none := by
   cases hw : V.w i with
   | none => rfl
   | some r => exact absurd (hR.wr i r.1 r.2 hw).1 hnot
  -- what the slots hold
  have hslots : ∀ s b wr, ∀ t ∈ eF ops.toList o, ∀ x, tm.get t = some x → (∃ k ok, k ∈ cZ o ∧ ops[k]? = some ok ∧ ok.dst = some t ∧ (V.set i s b wr).v k = some x) ∨ (st.tm.get t = some x ∧ ∀ k ok, k < n → ops[k]? = some ok → ok.dst = some t → i ∈ cZ ok ∨ k = i) := by
   intro s b wr t ht x hx
   rcases hR.tm t x hx with ⟨k, ok, hk, hok, hdk, hVk⟩ | ⟨h0, hno⟩
   ·have hki : k ≠ i := fun e => by subst e; exact hnot hk
    rcases hF.slot i o t hin ho ht k ok (hR.lt k hk) hok hdk with h | h | h
    ·exact .inl ⟨k, ok, h, hok, hdk, by simp [bG.set, hki, hVk]⟩
    ·exact absurd (hR.closed k ok hk hok i h) hnot
    ·exact absurd h hki
   ·refine .inr ⟨h0, fun k ok hk hok hdk => ?_⟩
    rcases hF.slot i o t hin ho ht k ok hk hok hdk with h | h | h
    ·exact absurd hdk (hno k ok (haft k h) hok)
    ·exact .inl h
    ·exact .inr h
  -- what is pG of the memory
  have hsees : ∀ bl, xT bk st.nx (jW ops.toList (gH ops.toList o)) = some bl → ∀ s b wr, BR ops n st.nx st.hp (V.set i s b wr) i o (pG (gH ops.toList o) (f7 st.hp bl) wl) := by
   intro bl hbl s b wr x c hx
   have hanc : ∀ k ∈ gH ops.toList o, k ∈ done := lI hR.closed haft
   have hbm := x7 hbl
   rcases GT (fun r hr => (hR.wk r hr).2.2) x c hx with ⟨r, hr, hk, rfl, rfl⟩ | ⟨hx, hno⟩
   ·have hki : r.k ≠ i := fun e => hnot (by rw [← e]; exact (hR.wk r hr).1)
    exact .inl ⟨r.k, hk, by simp [bG.set, hki, (hR.wk r hr).2.1]⟩
   ·refine .inr ⟨?_, fun k ok d hk hok hwk => ?_⟩
    ·rcases tJ (fun p hp => by
      obtain ⟨k, hk, b', hb', rfl⟩ := hbm p hp
      have := hR.lt k (hR.bk k b' hb').1
      simp only; omega) x c hx with ⟨p, hp, hpe⟩ | h
     ·obtain ⟨k, hk, b', hb', hpe'⟩ := hbm p hp
      rw [hpe] at hpe'
      cases hpe'
      have hkm := kG hk
      have hki : k ≠ i := fun e => by subst e; exact hnot (hanc _ hkm)
      exact .inr ⟨k, hkm, by simp [bG.set, hki, (hR.bk k c hb').2], rfl⟩
     ·exact .inl h
    ·by_cases hki : k = i
     ·exact .inr hki
     ·simp only [bG.set, hki, if_false] at hwk
      obtain ⟨_, r, hr, _, hrx, _⟩ := hR.wr k x d hwk
      exact absurd hrx (hno r hr)
  have key : ∀ (s : Sv) (b : Option Blk) (wr : Option (Nat × Blk)) (pc1 : PC) (tm1 : T Sv) (bk1 : T Blk) (wl1 : List Wr), vR nt o.dst s tm = some tm1 → (∀ k x, bk1.get k = some x → (k = i ∧ b = some x) ∨ (k ≠ i ∧ bk.get k = some x)) →
    ((wr = none ∧ wl1 = wl) ∨ (g8 o = true ∧ ∃ r, wr = some r ∧ wl1 = ⟨i, r.1, r.2⟩ :: wl ∧ r.1 < 65535 ∧ ∀ q ∈ wl, q.x ≠ r.1)) → OA C η ih ops n st.nx top st.lo st.tm st.hp (V.set i s b wr) i o pc pc1 →
    (fL C ih nt ops.toList st top l tm1 bk1 wl1 pc1).at_ η = some (tm', bk', wl', pc') → pc'.holds η ∧ ∃ V' done', Run C η ih ops n nt top st V' done' tm' bk' wl' ∧ ∀ j, j ∈ done ∨ j ∈ i :: l → j ∈ done' := by
   intro s b wr pc1 tm1 bk1 wl1 hput hbk hwl hw hrun
   obtain ⟨hdn, htm1⟩ := OB hput hnt
   have hne : ∀ k, k ∈ done → k ≠ i := fun k hk e => by subst e; exact hnot hk
   obtain ⟨E, a, w, hI⟩ := hI
   have hI1 := hI.mono (V' := V.set i s b wr) fun k hk => by
    have := hne k hk
    simp [bG.set, this]
   obtain ⟨hpc1, S, ⟨a1, w1, hS⟩, s2, _⟩ := GS (ro := none) (m := 0) hC hih hI1 hR.closed hR.lt hF.le hnot (by omega) ho haft
    (fun d hd j oj hj hoj hjd => hnot (by have := hF.uniq i j o oj d hin (hR.lt j hj) ho hoj hd hjd; subst this; exact hj)) hdn hpc hw
   obtain ⟨E1, hI2⟩ := s2 a1 w1 hS
   have hclosed : p7 ops (· ∈ i :: done) := by
    intro k ok hk hok j hj
    cases hk with
    | head =>
     have : ok = o := Option.some.inj (hok.symm.trans ho)
     subst this
     exact List.mem_cons_of_mem _ (haft j hj)
    | tail _ hk => exact List.mem_cons_of_mem _ (hR.closed k ok hk hok j hj)
   have hR1 : Run C η ih ops n nt top st (V.set i s b wr) (i :: done) tm1 bk1 wl1 := by
    refine ⟨fun t x hx => ?_, fun k x hx => ?_, fun r hr => ?_, fun k x c hk => ?_, fun k hk => ?_, hclosed, fun k hk => ?_⟩
    ·rcases htm1 t x hx with ⟨hd, rfl⟩ | ⟨hd, hx⟩
     ·exact .inl ⟨i, o, List.mem_cons_self .., ho, hd, by simp [bG.set]⟩
     ·rcases hR.tm t x hx with ⟨k, ok, hk, hok, hdk, hVk⟩ | ⟨h0, hno⟩
      ·have hki := hne k hk
       exact .inl ⟨k, ok, List.mem_cons_of_mem _ hk, hok, hdk, by simp [bG.set, hki, hVk]⟩
      ·refine .inr ⟨h0, fun k ok hk hok => ?_⟩
       cases hk with
       | head =>
        have : ok = o := Option.some.inj (hok.symm.trans ho)
        subst this; exact hd
       | tail _ hk => exact hno k ok hk hok
    ·rcases hbk k x hx with ⟨rfl, hb⟩ | ⟨hki, hx⟩
     ·exact ⟨List.mem_cons_self .., by simp [bG.set, hb]⟩
     ·obtain ⟨q1, q2⟩ := hR.bk k x hx
      exact ⟨List.mem_cons_of_mem _ q1, by simp [bG.set, hki, q2]⟩
    ·have old : r ∈ wl → r.k ∈ i :: done ∧ (V.set i s b wr).w r.k = some (r.x, r.c) ∧ r.x < 65535 := fun hr => by
      obtain ⟨q1, q2, q3⟩ := hR.wk r hr
      have hki := hne r.k q1
      exact ⟨List.mem_cons_of_mem _ q1, by simp [bG.set, hki, q2], q3⟩
     rcases hwl with ⟨_, rfl⟩ | ⟨_, q, hq, rfl, hq2, _⟩
     ·exact old hr
     ·cases hr with
      | head => exact ⟨List.mem_cons_self .., by simp [bG.set, hq], hq2⟩
      | tail _ hr => exact old hr
    ·by_cases hki : k = i
     ·subst hki
      simp only [bG.set, if_true] at hk
      rcases hwl with ⟨h0, _⟩ | ⟨_, q, hq, rfl, hq2, _⟩
      ·rw [h0] at hk; cases hk
      ·rw [hq] at hk; cases hk
       exact ⟨List.mem_cons_self .., _, List.mem_cons_self .., rfl, rfl, rfl⟩
     ·simp only [bG.set, hki, if_false] at hk
      obtain ⟨q1, r, q2, q3⟩ := hR.wr k x c hk
      refine ⟨List.mem_cons_of_mem _ q1, r, ?_, q3⟩
      rcases hwl with ⟨_, rfl⟩ | ⟨_, q, hq, rfl, _⟩
      ·exact q2
      ·exact List.mem_cons_of_mem _ q2
    ·cases hk with
     | head => exact ⟨o, pc, pc1, ho, hpc, hdn, hw⟩
     | tail _ hk =>
      obtain ⟨ok, p1, p2, q1, q2, q3, q4⟩ := hR.word k hk
      refine ⟨ok, p1, p2, q1, q2, q3, q4.mono hk hR.closed hnot q1 ho fun x c hwr => ?_⟩
      rcases hwl with ⟨h0, _⟩ | ⟨hst, q, hq, _, _, hq3⟩
      ·rw [h0] at hwr; cases hwr
      ·rw [hq] at hwr; cases hwr
       refine ⟨hstore hst k hk, fun r hr => ?_⟩
       obtain ⟨_, r', hr', _, hrx, _⟩ := hR.wr k r.1 r.2 hr
       rw [← hrx]
       exact Ne.symm (hq3 r' hr')
    ·cases hk with
     | head => exact hin
     | tail _ hk => exact hR.lt k hk
   have hset : (fun j => j ∈ done ∨ j = i) = (· ∈ i :: done) := by funext j; simp [or_comm]
   obtain ⟨r1, V', done', r2, r3⟩ := yA hC hih hnt htop hlim hF l (i :: done) _ tm1 bk1 wl1 pc1 tm' bk' wl' pc' hord' hrun hpc1 hR1 ⟨E1, a1, w1, by rw [hset] at hI2; exact hI2⟩
   refine ⟨r1, V', done', r2, fun j hj => r3 j ?_⟩
   rcases hj with hj | hj
   ·exact .inl (List.mem_cons_of_mem _ hj)
   ·cases hj with
    | head => exact .inl (List.mem_cons_self ..)
    | tail _ hj => exact .inr hj
  have hbki : ∀ x, bk.get i ≠ some x := fun x hx => hnot (hR.bk i x hx).1
  split at h
  ·rename_i ar hg har
   split at h
   ·rename_i tm1 hput
    obtain ⟨hck, h⟩ := DR h
    refine key _ (some ar.blk) none pc tm1 _ wl hput (fun k x hx => ?_) (.inl ⟨rfl, rfl⟩) ⟨tm, .nil, _, by simp [bG.set], hslots _ _ _, .inl ⟨ar, hg, har, hck, rfl, by simp [bG.set], by simp [bG.set], rfl⟩⟩ h
    by_cases hki : i = k
    ·subst hki
     rw [T.get_set_same _ _ _ (by omega)] at hx
     exact .inl ⟨rfl, hx⟩
    ·rw [T.get_set_ne _ _ _ _ hki] at hx
     exact .inr ⟨Ne.symm hki, hx⟩
   ·cases h
  ·split at h
   ·rename_i bl hbl
    split at h
    ·rename_i t x v hg hop
     split at h
     ·rename_i r0 tm1 hst hput
      obtain ⟨ck, r⟩ := r0
      simp only at h
      cases hc : ((wl.any fun q => Nat.beq q.x r.1) || !Nat.blt r.1 65535) with
      | true => rw [hc] at h; cases h
      | false =>
       rw [hc] at h
       simp only [cond_false] at h
       obtain ⟨hck, h⟩ := DR h
       have hst := StB.of hst hck
       simp only [Bool.or_eq_false_iff] at hc
       have hr1 : r.1 < 65535 := by
        have := hc.2
        cases hb : Nat.blt r.1 65535 with
        | true => exact Nat.le_of_ble_eq_true hb
        | false => rw [hb] at this; cases this
       have hq : ∀ q ∈ wl, q.x ≠ r.1 := fun q hq e => by
        have := List.any_eq_false.1 hc.1 q hq
        exact this (by rw [e]; simp)
       refine key .undef none (some r) pc tm1 bk _ hput (fun k x hx => .inr ⟨fun e => by subst e; exact hbki x hx, hx⟩) (.inr ⟨by simp [g8, hop], r, rfl, rfl, hr1, hq⟩)
        ⟨tm, _, .undef, by simp [bG.set], hslots _ _ _, .inr (.inr (.inl ⟨t, x, v, r, hsees bl hbl _ _ _, hg, hop, hst, rfl, by simp [bG.set], by simp [bG.set], rfl, fun j y c hj hji hwj => ?_⟩))⟩ h
       simp only [bG.set, hji, if_false] at hwj
       obtain ⟨_, r', hr', _, hrx, _⟩ := hR.wr j y c hwj
       rw [← hrx]; exact hq r' hr'
     ·cases h
    ·split at h
     ·rename_i bx want f gg args hgg
      obtain ⟨jg, dg, e1, e2, e3, e4⟩ := GR hgg
      obtain ⟨pc1, hp1, h1⟩ := bD hC.D hpc h
      split at h1
      ·rename_i he
       obtain ⟨⟨s, pc2⟩, h2, h3⟩ := aA.at_bind h1
       simp only at h3
       split at h3
       ·rename_i tm1 hput
        exact key (jA (st.nx + i) s) none none pc2 tm1 bk wl hput (fun k x hx => .inr ⟨fun e => by subst e; exact hbki x hx, hx⟩) (.inl ⟨rfl, rfl⟩)
         ⟨tm, _, _, by simp [bG.set], hslots _ _ _, .inr (.inr (.inr (.inr (.inr (.inr ⟨jg, want, dg, bx, pc1, e1, e2, e3, hp1, by simp [bG.set], by simp [bG.set], .inl ⟨he, f, gg, args, s, hsees bl hbl _ _ _, e4, h2, rfl⟩⟩)))))⟩ h3
       ·cases h3
      ·rename_i he
       split at h1
       ·rename_i tm1 hput
        exact key .undef none none pc1 tm1 bk wl hput (fun k x hx => .inr ⟨fun e => by subst e; exact hbki x hx, hx⟩) (.inl ⟨rfl, rfl⟩)
         ⟨tm, .nil, _, by simp [bG.set], hslots _ _ _, .inr (.inr (.inr (.inr (.inr (.inr ⟨jg, want, dg, bx, pc1, e1, e2, e3, hp1, by simp [bG.set], by simp [bG.set], .inr ⟨he, rfl, rfl⟩⟩)))))⟩ h1
       ·cases h1
     split at h
     ·rename_i f gg args hgo
      obtain ⟨⟨s, pc1⟩, h1, h2⟩ := aA.at_bind h
      simp only at h2
      split at h2
      ·rename_i tm1 hput
       exact key (jA (st.nx + i) s) none none pc1 tm1 bk wl hput (fun k x hx => .inr ⟨fun e => by subst e; exact hbki x hx, hx⟩) (.inl ⟨rfl, rfl⟩)
        ⟨tm, _, _, by simp [bG.set], hslots _ _ _, .inr (.inr (.inr (.inl ⟨f, gg, args, s, hsees bl hbl _ _ _, hgo, h1, rfl, by simp [bG.set], by simp [bG.set]⟩)))⟩ h2
      ·cases h2
     split at h
     ·rename_i r tm1 hco hput
      rw [hco] at hput
      split at h
      ·cases h
      ·rename_i hc
       simp only [Bool.or_eq_false_iff] at hc
       have hr1 : r.1 < 65535 := by
        have := hc.2
        cases hb : Nat.blt r.1 65535 with
        | true => exact Nat.le_of_ble_eq_true hb
        | false => rw [hb] at this; cases this
       have hq : ∀ q ∈ wl, q.x ≠ r.1 := fun q hq e => by
        have := List.any_eq_false.1 hc.1 q hq
        exact this (by rw [e]; simp)
       have hput : vR nt o.dst (.one (.int .i64 (.lit (.ofNat r.2.2)))) tm = some tm1 := hput
       refine key (.one (.int .i64 (.lit (.ofNat r.2.2)))) none (some (r.1, r.2.1)) pc tm1 bk _ hput (fun k x hx => .inr ⟨fun e => by subst e; exact hbki x hx, hx⟩) (.inr ⟨N9 hco, (r.1, r.2.1), rfl, rfl, hr1, hq⟩)
        ⟨tm, _, _, by simp [bG.set], hslots _ _ _, .inr (.inr (.inr (.inr (.inr (.inl ⟨r, hsees bl hbl _ _ _, hco, rfl, by simp [bG.set], by simp [bG.set], rfl, fun j y c hj hji hwj => ?_⟩)))))⟩ h
       simp only [bG.set, hji, if_false] at hwj
       obtain ⟨_, r', hr', _, hrx, _⟩ := hR.wr j y c hwj
       rw [← hrx]; exact hq r' hr'
     split at h
     ·rename_i f fi args hgo
      obtain ⟨r, h1, h2⟩ := aA.at_bind h
      split at h2
      ·rename_i blk sv how
       split at h2
       ·rename_i tm1 hput
        refine key sv (some blk) none r.2.pc tm1 _ wl hput (fun k x hx => ?_) (.inl ⟨rfl, rfl⟩)
         ⟨tm, _, _, by simp [bG.set], hslots _ _ _, .inr (.inr (.inr (.inr (.inl ⟨f, fi, args, r, blk, hsees bl hbl _ _ _, hgo, h1, how, by simp [bG.set], by simp [bG.set], rfl⟩))))⟩ h2
        by_cases hki : i = k
        ·subst hki
         rw [T.get_set_same _ _ _ (by omega)] at hx
         exact .inl ⟨rfl, hx⟩
        ·rw [T.get_set_ne _ _ _ _ hki] at hx
         exact .inr ⟨Ne.symm hki, hx⟩
       ·cases h2
      ·cases h2
     obtain ⟨⟨s, pc1⟩, h1, h2⟩ := aA.at_bind h
     simp only at h2
     split at h2
     ·rename_i tm1 hput
      exact key s none none pc1 tm1 bk wl hput (fun k x hx => .inr ⟨fun e => by subst e; exact hbki x hx, hx⟩) (.inl ⟨rfl, rfl⟩)
       ⟨tm, _, s, by simp [bG.set], hslots _ _ _, .inr (.inl ⟨hsees bl hbl _ _ _, h1, by simp [bG.set], by simp [bG.set]⟩)⟩ h2
     ·cases h2
   ·cases h

theorem PU {C : Cx} {P : Program} {η : Env} (hC : C.Ok P η) {ih : FI → List Sv → St → aA (Sv × St)} (hih : eR P η ih) {nt : Nat} {ops : Array Oper} {n : Nat} (hF : jK ops n) (Q : Exit → Act → World → Prop) :
  ∀ (l : List Oper) (k : Nat) (st st' : St) (listed : Array Bool) (fuel : Nat), (∀ j, l[j]? = ops[k + j]?) → k + l.length = ops.size → n ≤ k → l.length ≤ fuel → listed.size = ops.size → (∀ j, j < ops.size → (listed.getD j true = true ↔ j < k)) →
  (tH C ih nt ops.toList l st).at_ η = some st' → ∀ (E : Emb) (base : Nat) (w0 : World) (a : Act) (w : World), cR η E nt base w0 st a w →
  (∀ E' a' w', aH E E' st.nx → st.nx ≤ st'.nx → st'.lo = st.lo → cR η E' nt base w0 st' a' w' → Q .normal a' w') → wpAnyIn (FW ro) m P .any ops Q fuel listed a w
 | [], k, st, st', listed, fuel, hl, hk, hnk, hfu, hsz, hli, h, E, base, w0, a, w, hS, hK => by
  cases h
  have hr : Region.ready .any ops listed = [] := by
   cases hh : Region.ready .any ops listed with
   | nil => rfl
   | cons x xs =>
    have hx : x ∈ Region.ready .any ops listed := by rw [hh]; exact List.mem_cons_self ..
    obtain ⟨h1, o, h2, _⟩ := mem_ready.1 hx
    have hlt := (Array.getElem?_eq_some_iff.1 h2).1
    rw [(hli x hlt).2 (by simp at hk; omega)] at h1
    cases h1
  have hq := hK E a w (aH.refl _ _) (Nat.le_refl _) rfl hS
  cases fuel with
  | zero => exact ⟨hr, hq⟩
  | succ f => exact ⟨fun _ => hq, fun i hi => by rw [hr] at hi; cases hi⟩
 | o :: l, k, st, st', listed, fuel, hl, hk, hnk, hfu, hsz, hli, h, E, base, w0, a, w, hS, hK => by
  obtain ⟨st1, h1, h2⟩ := aA.at_bind h
  have ho : ops[k]? = some o := by have := hl 0; simpa using this.symm
  have hklt : k < ops.size := by simp at hk; omega
  cases fuel with
  | zero => simp at hfu
  | succ f =>
   rcases hF.tail with hF | ⟨_, hch, hnl, haft⟩
   ·omega
   have hkr : k ∈ Region.ready .any ops listed := by
    refine mem_ready.2 ⟨?_, o, ho, fun e he hb => ?_⟩
    ·cases hc : listed.getD k true with
     | false => rfl
     | true => have := (hli k hklt).1 hc; omega
    ·have hlt := haft k o hnk ho e.on (dI.2 ⟨e, he, hb, rfl⟩)
     have := (hli e.on (by omega)).2 hlt
     rw [Array.getD_eq_getD_getElem?] at this ⊢
     have hes : e.on < listed.size := by omega
     simpa [hes] using this
   have hrk : ∀ i ∈ Region.ready .any ops listed, i = k := by
    intro i hi
    obtain ⟨g1, oi, g2, g3⟩ := mem_ready.1 hi
    have hilt := (Array.getElem?_eq_some_iff.1 g2).1
    have hge : k ≤ i := by
     rcases Nat.lt_or_ge i k with hlt | hge
     ·rw [(hli i hilt).2 hlt] at g1; cases g1
     ·exact hge
    rcases Nat.lt_or_ge k i with hgt | hle
    ·have hc := List.all_eq_true.1 hch i (List.mem_range.2 hilt)
     simp only [Bool.or_eq_true, decide_eq_true_eq] at hc
     rcases hc with hc | hc
     ·omega
     ·obtain ⟨o', ho', e, he, hb, hon⟩ := Region.waitsFor_spec hc
      have : o' = oi := Option.some.inj (ho'.symm.trans g2)
      subst this
      have h3 := g3 e he hb
      rw [hon] at h3
      have hlt : i - 1 < listed.size := by omega
      have : listed.getD (i - 1) true = true := by
       rw [Array.getD_eq_getD_getElem?] at h3 ⊢
       simpa [hlt] using h3
      have := (hli (i - 1) (by omega)).1 this
      omega
    ·omega
   refine ⟨fun h0 => (by rw [h0] at hkr; cases hkr), fun i hi => ?_⟩
   have := hrk i hi; subst this
   have g4 := xQ (ro := ro) (m := m) hC hih ho h1 hS Q
   have hl' : ∀ j, l[j]? = ops[i + 1 + j]? := fun j => by have := hl (j + 1); simpa [Nat.add_assoc, Nat.add_comm 1 j] using this
   refine g4 _ (fun E' a' w' hA hn hlo hS1 => ?_)
   refine PU hC hih hF Q l (i + 1) st1 st' _ f hl' (by simp at hk; omega) (by omega) (by simp at hfu; omega) (by simp [hsz]) ?_ h2 E' base w0 a' w' hS1 (fun E'' a'' w'' hA' hn' hlo' hS' => hK E'' a'' w'' (hA.trans hA' hn) (Nat.le_trans hn hn') (hlo'.trans hlo) hS')
   intro j hj
   by_cases hij : i = j
   ·subst hij
    have : (listed.setIfInBounds i true).getD i true = true := by simp [hsz, hj]
    simp [this]
   ·rw [getD_set_ne true hij, hli j hj]; omega

theorem MS {listed : Array Bool} {i : Nat} (hi : listed.getD i true = false) : ∀ l : List Nat, (l.countP fun j => !(listed.setIfInBounds i true).getD j true) ≤ (l.countP fun j => !listed.getD j true) ∧ (i ∈ l → (l.countP fun j => !(listed.setIfInBounds i true).getD j true) < (l.countP fun j => !listed.getD j true))
 | [] => ⟨by simp, fun h => by cases h⟩
 | k :: l => by
  obtain ⟨h1, h2⟩ := MS hi l
  by_cases hik : i = k
  ·subst hik
   have hlt : i < listed.size := by
    rcases Nat.lt_or_ge i listed.size with h | h
    ·exact h
    ·simp [Array.getElem?_eq_none h] at hi
   have : (listed.setIfInBounds i true).getD i true = true := by simp [hlt]
   simp only [List.countP_cons, this, hi, Bool.not_true, Bool.not_false, if_true, Bool.false_eq_true, if_false]
   exact ⟨by omega, fun _ => by omega⟩
  ·simp only [List.countP_cons, getD_set_ne true hik]
   refine ⟨by omega, fun hm => ?_⟩
   have := h2 ((List.mem_cons.1 hm).resolve_left hik)
   omega

theorem SO {C : Cx} {P : Program} {η : Env} (hC : C.Ok P η) {ih : FI → List Sv → St → aA (Sv × St)} (hih : eR P η ih) {ops : Array Oper}
  {E0 : Emb} {top base nt n : Nat} {w0 : World} {st : St} {V : bG} {done : List Nat} {tm : T Sv} {bk : T Blk} {wl : List Wr} (htop : top = st.nx + n) (hF : jK ops n)
  (hR : Run C η ih ops n nt top st V done tm bk wl) (hall : ∀ i, i < n → i ∈ done)
  {Q : Exit → Act → World → Prop}
  (hfin : ∀ listed E a w fuel, HeadInv .any ops n listed → (∀ j, j < n → listed.getD j true = true) → ops.size - n ≤ fuel → Inv η ops E0 st.nx top st.lo base nt w0 st.tm st.hp V (fun j => j < n) E a w → wpAnyIn (FW ro) m P .any ops Q fuel listed a w) :
  ∀ (fuel : Nat) (listed : Array Bool) (E : Emb) (a : Act) (w : World), HeadInv .any ops n listed → ((List.range n).countP fun j => !listed.getD j true) + (ops.size - n) ≤ fuel →
  Inv η ops E0 st.nx top st.lo base nt w0 st.tm st.hp V (fun j => j < n ∧ listed.getD j true = true) E a w → wpAnyIn (FW ro) m P .any ops Q fuel listed a w := by
 have haft : ∀ i, i < n → ∀ o, ops[i]? = some o → ∀ j ∈ cZ o, j < n := fun i hi => MR _ _ hF.ord (fun _ h => by cases h) i (hF.all i hi)
 have full : ∀ (fuel : Nat) (listed : Array Bool) (E : Emb) (a : Act) (w : World), HeadInv .any ops n listed → ops.size - n ≤ fuel → (∀ j, j < n → listed.getD j true = true) → Inv η ops E0 st.nx top st.lo base nt w0 st.tm st.hp V (fun j => j < n ∧ listed.getD j true = true) E a w → wpAnyIn (FW ro) m P .any ops Q fuel listed a w := by
  intro fuel listed E a w hinv hf hlist hI
  refine hfin listed E a w fuel hinv hlist hf ?_
  have : (fun j => j < n ∧ listed.getD j true = true) = (fun j => j < n) := by funext j; exact propext ⟨fun h => h.1, fun h => ⟨h, hlist j h⟩⟩
  rw [← this]; exact hI
 intro fuel
 induction fuel with
 | zero =>
  intro listed E a w hinv hf hI
  have hz : ((List.range n).countP fun j => !listed.getD j true) = 0 := by omega
  exact full 0 listed E a w hinv (by omega) (fun j hj => by
   have := List.countP_eq_zero.1 hz j (List.mem_range.2 hj)
   simpa using this) hI
 | succ f ih' =>
  intro listed E a w hinv hf hI
  by_cases hex : ∃ i, i < n ∧ ¬ listed.getD i true = true
  ·obtain ⟨i0, hi0, hun0⟩ := hex
   have hun0' : listed.getD i0 true = false := by cases h : listed.getD i0 true with | false => rfl | true => exact absurd h hun0
   have tog : ∀ j, j < n → (listed.getD j true = true ↔ listed.getD j false = true) := fun j hj => by
    have : j < listed.size := by rw [hinv.size]; have := hF.le; omega
    simp [this]
   have hltn : ∀ i ∈ Region.ready .any ops listed, i < n := by
    intro i hi
    obtain ⟨_, oi, g2, _⟩ := mem_ready.1 hi
    have hilt := (Array.getElem?_eq_some_iff.1 g2).1
    rcases hF.tail with hF | ⟨hs, hc, hn, _⟩
    ·omega
    ·rcases Nat.lt_or_ge i n with h | h
     ·exact h
     ·exact absurd hi (tail_waits hs hc hn hinv _ i0 rfl hi0 hun0' i h)
   have hclosed : p7 ops (fun j => j < n ∧ listed.getD j true = true) := by
    intro k ok hk hok j hj
    have hjn := haft k hk.1 ok hok j hj
    obtain ⟨e, he, hb, rfl⟩ := dI.1 hj
    exact ⟨hjn, (tog _ hjn).2 (hinv.closed k ok hok ((tog k hk.1).1 hk.2) e he hb)⟩
   refine ⟨fun h0 => ?_, fun i hi => ?_⟩
   ·obtain ⟨i, o, h1, h2, h3, h4⟩ := CC (S := fun j => j < n ∧ listed.getD j true = true) _ _ hF.ord (fun _ h => by cases h) ⟨i0, hF.all i0 hi0, fun h => hun0 h.2⟩
    have hin : i < n := hR.lt i (by
     rcases Nat.lt_or_ge i n with h | h
     ·exact hall i h
     ·exfalso
      have : ∀ (l done : List Nat), g9 ops.toList n l done = true → ∀ k ∈ l, k < n := by
       intro l
       induction l with
       | nil => intro _ _ k hk; cases hk
       | cons x l ihl =>
        intro done hg k hk
        obtain ⟨g1, _, _, g4⟩ := jE hg
        cases hk with
        | head => exact g1
        | tail _ hk => exact ihl _ g4 k hk
      exact absurd (this _ _ hF.ord i h1) (by omega))
    have : i ∈ Region.ready .any ops listed := by
     refine mem_ready.2 ⟨?_, o, h3, fun e he hb => ?_⟩
     ·cases h : listed.getD i true with
      | false => rfl
      | true => exact absurd ⟨hin, h⟩ h2
     ·obtain ⟨q1, q2⟩ := h4 e.on (dI.2 ⟨e, he, hb, rfl⟩)
      exact (tog _ q1).1 q2
    rw [h0] at this; cases this
   ·have hin := hltn i hi
    obtain ⟨hun, o, ho, hw⟩ := mem_ready.1 hi
    obtain ⟨o', pc, pc', e1, e2, e3, e4⟩ := hR.word i (hall i hin)
    have : o' = o := Option.some.inj (e1.symm.trans ho)
    subst this
    have haft' : ∀ j ∈ cZ o', j < n ∧ listed.getD j true = true := fun j hj => by
     have hjn := haft i hin o' ho j hj
     obtain ⟨e, he, hb, rfl⟩ := dI.1 hj
     exact ⟨hjn, (tog _ hjn).2 (hw e he hb)⟩
    obtain ⟨_, S, _, s2, s3⟩ := GS (ro := ro) (m := m) hC hih hI hclosed (fun j hj => hj.1) hF.le (fun h => by rw [hun] at h; exact absurd h.2 (by simp)) (by omega) ho haft'
     (fun d hd j oj hj hoj hjd => by
      have := hF.uniq i j o' oj d hin hj.1 ho hoj hd hjd
      subst this; rw [hun] at hj; exact absurd hj.2 (by simp)) e3 e2 e4
    refine s3 Q _ fun a' w' hS => ?_
    obtain ⟨E', hI'⟩ := s2 a' w' hS
    refine ih' (listed.setIfInBounds i true) E' a' w' (hinv.set hi hin) ?_ ?_
    ·have := (MS hun (List.range n)).2 (List.mem_range.2 hin)
     omega
    ·have : (fun j => (j < n ∧ listed.getD j true = true) ∨ j = i) = (fun j => j < n ∧ (listed.setIfInBounds i true).getD j true = true) := by
      funext j
      by_cases hij : i = j
      ·subst hij
       have hlt : i < listed.size := by rw [hinv.size]; have := hF.le; omega
       simp [hlt, hin]
      ·rw [getD_set_ne true hij]
       exact propext ⟨fun h => h.resolve_right (Ne.symm hij), .inl⟩
     rw [← this]; exact hI'
  ·exact full (f + 1) listed E a w hinv (by omega) (fun j hj => Classical.byContradiction fun h => hex ⟨j, hj, h⟩) hI

end
end Go.Ex

