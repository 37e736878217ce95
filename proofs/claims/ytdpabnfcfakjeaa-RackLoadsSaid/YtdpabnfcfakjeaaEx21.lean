/-
  That the executor of regions that draw their order is right.
-/
import Derived.Test.YtdpabnfcfakjeaaEx20

namespace Go.Ex
open Go Go.RowKit
noncomputable section

theorem natAll_spec {p : Nat → Bool} : ∀ {m : Nat}, natAll p m = true → ∀ i, i < m → p i = true
  | 0, _, i, hi => absurd hi (Nat.not_lt_zero _)
  | m + 1, h, i, hi => by
    simp only [natAll, Bool.and_eq_true] at h
    rcases Nat.lt_or_ge i m with hlt | hge
    · exact natAll_spec h.2 i hlt
    · have : i = m := by omega
      subst this; exact h.1
theorem natAny_spec {p : Nat → Bool} : ∀ {m : Nat}, natAny p m = true → ∃ i, i < m ∧ p i = true
  | 0, h => by cases h
  | m + 1, h => by
    simp only [natAny, Bool.or_eq_true] at h
    rcases h with h | h
    · exact ⟨m, Nat.lt_succ_self _, h⟩
    · obtain ⟨i, hi, hp⟩ := natAny_spec h; exact ⟨i, by omega, hp⟩
theorem lenL_eq {α : Type} : ∀ l : List α, lenL l = l.length
  | [] => rfl
  | _ :: l => by simp [lenL, lenL_eq l]
theorem dropL_eq {α : Type} : ∀ (n : Nat) (l : List α), dropL n l = l.drop n
  | 0, l => by cases l <;> rfl
  | n + 1, [] => rfl
  | n + 1, x :: l => by simp [dropL, dropL_eq n l]
theorem optIs_spec {o : Option Nat} {i : Nat} (h : optIs o i = true) : o = some i := by
  cases o with
  | none => cases h
  | some j => rw [Nat.eq_of_beq_eq_true h]

theorem waitsB_spec {ops : Array Oper} {j i : Nat} (h : waitsB ops.toList j i = true) : Region.waitsFor .any ops j i = true := by
  unfold waitsB at h
  split at h
  · rename_i o ho
    rw [nth_eq, Array.getElem?_toList] at ho
    obtain ⟨k, hk, hki⟩ := List.any_eq_true.1 h
    have := Nat.eq_of_beq_eq_true hki; subst this
    obtain ⟨e, he, hb, hon⟩ := aftOf_mem.1 hk
    unfold Region.waitsFor
    simp only [ho]
    exact Array.any_eq_true'.2 ⟨e, he, by simp [hb, hon]⟩
  · cases h

theorem drawB_spec {ops : Array Oper} {n : Nat} (hn : n ≤ ops.size) (h : drawB ops.toList n (lenL ops.toList) = true) : DrawFacts ops n := by
  have hm : lenL ops.toList = ops.size := by rw [lenL_eq]; simp
  rw [hm] at h
  simp only [drawB, Bool.and_eq_true, Bool.or_eq_true] at h
  obtain ⟨⟨⟨h1, h6⟩, h7⟩, h2⟩ := h
  have own : ∀ k ok d, k < n → ops[k]? = some ok → ok.dst = some d → firstD d 0 ops.toList = some k := by
    intro k ok d hk hok hd
    have := natAll_spec h1 k hk
    rw [nth_eq, Array.getElem?_toList, hok] at this
    simp only [hd, Bool.and_eq_true] at this
    exact optIs_spec this.1
  refine ⟨?_, ?_, hn, h6, fun i hi => any_mem.1 (natAll_spec h7 i hi), ?_⟩
  · intro i j oi oj d hi hj hoi hoj hdi hdj
    exact Option.some.inj ((own i oi d hi hoi hdi).symm.trans (own j oj d hj hoj hdj))
  · intro i o t hi ho ht k ok hk hok hdk
    have := natAll_spec h1 i hi
    rw [nth_eq, Array.getElem?_toList, ho] at this
    simp only [Bool.and_eq_true] at this
    have := List.all_eq_true.1 this.2 t ht
    rw [own k ok t hk hok hdk] at this
    simp only [Bool.or_eq_true] at this
    rcases this with ((h | h) | h) | h
    · have := Nat.le_of_ble_eq_true h; omega
    · obtain ⟨o', ho', e, he, hb, hon⟩ := Region.waitsFor_spec (waitsB_spec h)
      have : o' = o := Option.some.inj (ho'.symm.trans ho)
      subst this
      exact .inl (aftOf_mem.2 ⟨e, he, hb, hon⟩)
    · obtain ⟨o', ho', e, he, hb, hon⟩ := Region.waitsFor_spec (waitsB_spec h)
      have : o' = ok := Option.some.inj (ho'.symm.trans hok)
      subst this
      exact .inr (.inl (aftOf_mem.2 ⟨e, he, hb, hon⟩))
    · exact .inr (.inr (Nat.eq_of_beq_eq_true h))
  · rcases h2 with h2 | ⟨⟨⟨h2, h3⟩, h4⟩, h5⟩
    · exact .inl (Nat.eq_of_beq_eq_true h2)
    · refine .inr ⟨?_, ?_, Nat.le_of_ble_eq_true h4, ?_⟩
      · unfold Region.sinkB
        refine List.all_eq_true.2 fun i hi => ?_
        have hi := List.mem_range.1 hi
        obtain ⟨j, hj, hj2⟩ := natAny_spec (natAll_spec h2 i hi)
        simp only [Bool.and_eq_true] at hj2
        refine List.any_eq_true.2 ⟨j, List.mem_range.2 hj, ?_⟩
        simp only [Bool.and_eq_true, decide_eq_true_eq]
        exact ⟨Nat.le_of_ble_eq_true hj2.1, waitsB_spec hj2.2⟩
      · unfold Region.chainB
        refine List.all_eq_true.2 fun t ht => ?_
        have := natAll_spec h3 t (List.mem_range.1 ht)
        simp only [Bool.or_eq_true, decide_eq_true_eq] at this ⊢
        exact this.imp Nat.le_of_ble_eq_true waitsB_spec
      · intro t o hnt ho j hj
        have := natAll_spec h5 t (Array.getElem?_eq_some_iff.1 ho).1
        rw [nth_eq, Array.getElem?_toList, ho] at this
        simp only [Bool.or_eq_true] at this
        rcases this with h | h
        · have : t < n := Nat.le_of_ble_eq_true h; omega
        · exact Nat.le_of_ble_eq_true (List.all_eq_true.1 h j hj)

theorem headLen_le (p : Oper → Bool) : ∀ l : List Oper, headLen p l ≤ l.length
  | [] => Nat.le_refl _
  | o :: l => by
    simp only [headLen, List.length_cons]
    cases p o with
    | true => simp
    | false => have := headLen_le p l; simp; omega
theorem cutOf_spec {ops : Array Oper} {n : Nat} (h : cutOf ops.toList = some n) : DrawFacts ops n := by
  unfold cutOf at h
  cases h1 : drawB ops.toList (headLen isTail ops.toList) (lenL ops.toList) with
  | true =>
    rw [h1] at h; cases h
    exact drawB_spec (by have := headLen_le isTail ops.toList; simpa using this) h1
  | false =>
    rw [h1] at h
    cases h2 : drawB ops.toList (headLen isWrite ops.toList) (lenL ops.toList) with
    | true =>
      rw [h2] at h; cases h
      exact drawB_spec (by have := headLen_le isWrite ops.toList; simpa using this) h2
    | false =>
      rw [h2] at h
      cases h3 : drawB ops.toList (lenL ops.toList) (lenL ops.toList) with
      | true =>
        rw [h3] at h; cases h
        exact drawB_spec (by rw [lenL_eq]; simp) h3
      | false => rw [h3] at h; cases h

theorem cutC_spec {C : Cx} {ops : Array Oper} {n : Nat} (h : cutC C ops.toList = some n) : DrawFacts ops n := by
  unfold cutC at h
  cases h1 : (loudLast C ops.toList && drawB ops.toList (lenL ops.toList - 1) (lenL ops.toList)) with
  | true =>
    rw [h1] at h; cases h
    simp only [Bool.and_eq_true] at h1
    exact drawB_spec (by rw [lenL_eq]; simp) h1.2
  | false =>
    rw [h1] at h
    exact cutOf_spec h
theorem wrAll_mem {hp : T Blk} : ∀ {wl : List Wr}, (∀ r ∈ wl, r.x < 65535) → ∀ x b, (wrAll hp wl).get x = some b → (∃ r ∈ wl, r.x = x ∧ r.c = b) ∨ (hp.get x = some b ∧ ∀ r ∈ wl, r.x ≠ x)
  | [], _, x, b, h => .inr ⟨h, fun _ h => by cases h⟩
  | r :: wl, hl, x, b, h => by
    simp only [wrAll] at h
    by_cases hrx : r.x = x
    · subst hrx
      rw [T.get_set_same _ _ _ (hl r (List.mem_cons_self ..))] at h
      cases h; exact .inl ⟨r, List.mem_cons_self .., rfl, rfl⟩
    · rw [T.get_set_ne _ _ _ _ hrx] at h
      rcases wrAll_mem (fun q hq => hl q (List.mem_cons_of_mem _ hq)) x b h with ⟨q, hq, e⟩ | ⟨h, hno⟩
      · exact .inl ⟨q, List.mem_cons_of_mem _ hq, e⟩
      · refine .inr ⟨h, fun q hq => ?_⟩
        cases hq with
        | head => exact hrx
        | tail _ hq => exact hno q hq

theorem blksAll_mem {bk : T Blk} {nx : Nat} : ∀ {n : Nat}, ∀ p ∈ blksAll bk nx n, ∃ k b, bk.get k = some b ∧ p = (nx + k, b)
  | 0, p, hp => by cases hp
  | n + 1, p, hp => by
    simp only [blksAll] at hp
    split at hp
    · rename_i b hb
      cases hp with
      | head => exact ⟨n, b, hb, rfl⟩
      | tail _ hp => exact blksAll_mem p hp
    · exact blksAll_mem p hp

theorem drawX_ok {C : Cx} {P : Program} {η : Env} (hC : C.Ok P η) : DrawOk P η (drawX C) := by
  intro ih hih nt ops st st' h E base w0 a w hS Q id hK ro m
  unfold drawX at h
  split at h
  · rename_i n hcut
    have hF := cutC_spec hcut
    cases hb : Nat.ble (st.nx + n) 65000 with
    | false => rw [hb] at h; cases h
    | true =>
      rw [hb] at h
      have hlim := Nat.le_of_ble_eq_true hb
      obtain ⟨⟨tm, bk, wl, pc⟩, h1, h2⟩ := Tree.at_bind h
      refine wpIn_region_any hC.mixed ?_
      have hd : HRel η E st.hp st.nx st.lo base w.drew := hS.hr.drew
      have hH0 : HRel η E st.hp (st.nx + n) st.lo base w.drew := ⟨fun i b h => Nat.lt_of_lt_of_le (hd.dom i b h) (Nat.le_add_right _ _), hd.cell, hd.inj, hd.hi, hd.top, hd.bot, (fun i hi => hd.free i (by omega)), hlim, hd.zw, hd.zd, (fun k hk => hd.rfree k (by omega)), hd.dk, hd.rn, hd.mt.keep (fun _ _ => rfl) (Nat.le_add_right _ _) hd.mt.hi (Nat.le_refl _) (fun _ _ _ _ _ _ _ _ hg => ⟨hg, rfl⟩) (fun _ _ _ h => h) (fun _ _ => rfl) (fun _ _ => rfl) hd.mt.z hd.mt.own⟩
      have hI0 : ∀ (V : Held) (L : Nat → Prop), (∀ j, L j → False) → Inv η ops E st.nx (st.nx + n) st.lo base nt w0 st.tm st.hp V L E a w.drew := fun V L hL =>
        ⟨Agree.refl _ _, fun t s ht _ => hS.fr t s ht, fun j _ _ hj => (hL j hj).elim, ⟨st.hp, fun _ _ h _ => h, fun j _ hj => (hL j hj).elim, fun j _ _ hj => (hL j hj).elim, hH0⟩, fun j _ _ => ⟨hd.free _ (by omega), hd.rfree _ (by omega)⟩, hS.sz, hS.df, hS.bl.drew⟩
      obtain ⟨hpc, V, done, hR, hsub⟩ := headRun_ok (E0 := E) (base := base) (w0 := w0) hC hih hS.nt rfl hlim hF (ordOf n ops.toList) [] ⟨fun _ => none, fun _ => none, fun _ => none⟩ st.tm .nil [] st.pc tm bk wl pc hF.ord h1 hS.pc
        ⟨fun t s ht => .inr ⟨ht, fun k ok hk => (by cases hk)⟩, fun k b hk => (by simp [T.get_nil] at hk), fun r hr => (by cases hr), fun k x c hk => (by cases hk), fun i hi => (by cases hi), fun i o hi => (by cases hi), fun i hi => (by cases hi)⟩
        ⟨E, a, w.drew, hI0 _ _ fun j hj => by cases hj⟩
      have hall : ∀ i, i < n → i ∈ done := fun i hi => hsub i (.inr (hF.all i hi))
      refine headAny (E0 := E) (top := st.nx + n) (base := base) (nt := nt) (n := n) (w0 := w0) hC hih rfl hF hR hall ?_ ops.size _ E a _ ?_ ?_ (hI0 _ _ ?_)
      · intro listed E1 a1 w1 fuel hinv hlist hfu hI
        obtain ⟨hp, hp1, hp2, hp3, hH⟩ := hI.hp
        have hSt : SRel η E1 nt base w0 ⟨tm, wrAll (hpAdd st.hp (bif anyAlloc ops.toList || anyCall ops.toList then blksAll bk st.nx n else [])) wl, st.nx + n, st.lo, pc⟩ a1 w1 := by
          refine ⟨fun t s ht => ?_, hI.sz, hS.nt, hI.df.trans (congrArg Fix.l hI.ag.dl.symm), ?_, hI.bl, Nat.le_trans hS.lo (Nat.le_add_right _ _), hpc⟩
          · rcases hR.tm t s ht with ⟨k, ok, hk, hok, hdk, hVk⟩ | ⟨h0, hno⟩
            · obtain ⟨s', v, e1, e2, e3⟩ := hI.rc k ok t (hR.lt k hk) hok hdk
              rw [hVk] at e1; cases e1
              exact ⟨v, e2, e3⟩
            · exact hI.old t s h0 fun k ok hk hok => hno k ok (hall k hk) hok
          · refine hH.sub fun x b hx => ?_
            rcases wrAll_mem (fun r hr => (hR.wk r hr).2.2) x b hx with ⟨r, hr, rfl, rfl⟩ | ⟨hx, hno⟩
            · obtain ⟨q1, q2, _⟩ := hR.wk r hr
              exact hp3 r.k r.x r.c (hR.lt _ q1) q2
            · have hno' : ∀ k c, k < n → V.w k ≠ some (x, c) := fun k c hk hwk => by
                obtain ⟨_, r, hr, _, hrx, _⟩ := hR.wr k x c hwk
                exact hno r hr hrx
              have hmem : ∀ p ∈ (bif anyAlloc ops.toList || anyCall ops.toList then blksAll bk st.nx n else []), ∃ k b, bk.get k = some b ∧ p = (st.nx + k, b) := fun p hp' => by
                cases hc : (anyAlloc ops.toList || anyCall ops.toList) with
                | true => rw [hc] at hp'; exact blksAll_mem p hp'
                | false => rw [hc] at hp'; cases hp'
              rcases hpAdd_mem (fun p hp' => by
                obtain ⟨k, b', hk, rfl⟩ := hmem p hp'
                have := hR.lt k (hR.bk k b' hk).1
                simp only; omega) x b hx with ⟨p, hp', hpe⟩ | h
              · obtain ⟨k, b', hk, hpe'⟩ := hmem p hp'
                rw [hpe] at hpe'
                cases hpe'
                obtain ⟨q1, q2⟩ := hR.bk k b hk
                exact hp2 k b (hR.lt k q1) q2 hno'
              · exact hp1 x b h hno'
        simp only at h2
        rw [dropL_eq] at h2
        refine seqAny hC hih hF Q (ops.toList.drop n) n _ st' listed fuel (fun j => by simp [List.getElem?_drop]) (by have := hF.le; simp; omega) (Nat.le_refl _) (by simp; omega) hinv.size ?_ h2 E1 base w0 a1 w1 hSt ?_
        · intro j hj
          refine ⟨fun h => ?_, hlist j⟩
          rcases Nat.lt_or_ge j n with hlt | hge
          · exact hlt
          · rw [hinv.tail j hge hj] at h; cases h
        · intro E' a' w' hA hn' hlo' hS'
          exact hK E' a' w' (hI.ag.trans hA (Nat.le_add_right _ _)) (Nat.le_trans (Nat.le_add_right _ _) hn') hlo' hS'
      · exact ⟨by simp, fun j oj _ hl => (by rw [getD_replicate_false] at hl; cases hl), fun t _ ht => getD_in (by simpa using ht) (getD_replicate_false _ _)⟩
      · have : ((List.range n).countP fun j => !(Array.replicate ops.size false).getD j true) ≤ n := by
          refine Nat.le_trans List.countP_le_length ?_
          simp
        have := hF.le
        omega
      · intro j hj
        have h1 := hj.2
        have := hF.le
        have hlt : j < ops.size := by omega
        simp [hlt] at h1
  · cases h

end
end Go.Ex

