/-
  That the executor of regions that draw their order is right: its parts.
-/
import Derived.Test.YtoheddhbcpjmkaaEx17
namespace Go.Ex
open Go Go.RowKit
noncomputable section

theorem Calls.exists {P : Program} {f : FuncId} {args : Array Value} {w : World} {R : Ending → World → Prop} (h : Calls P f args w R) : ∃ e w', R e w' := by
  obtain ⟨e, w', _, hR, _⟩ := h []
  exact ⟨e, w', hR⟩

/-- An operation that hands back v and leaves all that there was as it was. -/
def QStep (P : Program) (o : Oper) (a : Act) (w : World) (v : Value) : Prop :=
  (execOp a.eval o).run P w = .ok (.value v) w ∨ ∃ f args, (execOp a.eval o).run P w = .ok (.enter f args) w ∧ Calls P f args w fun e w' => e = .returned v ∧ Below w.heap.size w w'

theorem QStep.wp {P : Program} {o : Oper} {a : Act} {w : World} {v : Value} (h : QStep P o a w v) : ∃ S : World → Prop, (∃ w', S w') ∧ (∀ w', S w' → Below w.heap.size w w') ∧
    ∀ (Q : Exit → Act → World → Prop) (K : Act → World → Prop), (∀ w', S w' → K (a.put o.dst v) w') → o.wp P a w K Q := by
  rcases h with h | ⟨f, args, h, hc⟩
  · refine ⟨fun w' => w' = w, ⟨w, rfl⟩, fun w' e => by subst e; exact Below.refl _ _, fun Q K hK => ?_⟩
    unfold Oper.wp; rw [h]; exact hK w rfl
  · refine ⟨fun w' => Below w.heap.size w w', ?_, fun _ h => h, fun Q K hK => ?_⟩
    · obtain ⟨e, w', _, hb⟩ := Calls.exists hc
      exact ⟨w', hb⟩
    · unfold Oper.wp; rw [h]
      refine hc.mono ?_
      rintro e w' ⟨rfl, hb⟩
      exact hK w' hb

theorem callQ_run {C : Cx} {P : Program} {η : Env} (hC : C.Ok P η) {ih : FI → List Sv → St → Tree (Sv × St)} (hih : CallOk P η ih) {f : FuncId} {args : List Sv} {st : St} {sv : Sv} {pc : PC} (hpc : st.pc.holds η)
    (h : (callQ C ih f args st).at_ η = some (sv, pc)) {E : Emb} {lo base : Nat} {w : World} {vs : List Value} (hH : HRel η E st.hp st.nx lo base w) (hv : denArgs η E args = some vs) :
    pc.holds η ∧ ∃ v, sv.den η E = some v ∧ ((callFunc f vs.toArray).run P w = .ok (.value v) w ∨ ∃ f' args', (callFunc f vs.toArray).run P w = .ok (.enter f' args') w ∧ Calls P f' args' w fun e w' => e = .returned v ∧ Below w.heap.size w w') := by
  unfold callQ at h
  split at h
  · rename_i g hg
    obtain ⟨hp1, hg1⟩ := hC.sm f g hg args st.pc sv pc h hpc
    obtain ⟨v, e1, e2⟩ := hg1 E vs w hv
    refine ⟨hp1, v, e1, ?_⟩
    rcases e2 with e2 | ⟨e2, e3⟩
    · exact .inl e2
    · exact .inr ⟨f, _, e2, e3⟩
  · split at h
    · rename_i g hg
      obtain ⟨hp1, hg1⟩ := hC.hs f g hg st.hp args st.pc sv pc h hpc
      obtain ⟨v, e1, e2⟩ := hg1 E vs _ _ _ w hH hv
      refine ⟨hp1, v, e1, ?_⟩
      rcases e2 with e2 | ⟨e2, e3⟩
      · exact .inl e2
      · exact .inr ⟨f, _, e2, e3⟩
    split at h
    · rename_i fi hfi
      have hF := hC.ft f fi hfi
      cases hq : fi.quiet with
      | false => rw [hq] at h; cases h
      | true =>
        rw [hq] at h
        obtain ⟨r1, h1, h2⟩ := Tree.at_bind h
        cases hb : below st.nx r1.1 with
        | false => rw [hb] at h2; cases h2
        | true =>
          rw [hb] at h2; cases h2
          have g3 := hih fi args { st with lo := st.nx } r1 h1 f hF hpc (Nat.le_refl _)
          have hH' : HRel η E st.hp st.nx st.nx w.heap.size w := ⟨hH.dom, hH.cell, hH.inj, (fun i B K hi hE => by rw [hH.free i hi] at hE; cases hE), hH.top, Nat.le_refl _, hH.free, hH.lim⟩
          have g4 := g3 E w.heap.size w w vs hH' (Below.refl _ _) hv
          obtain ⟨_, w1, v, E1, _, e1, e2, _, _, e5, _⟩ := Calls.exists g4
          rw [Sv.den_agree e2 hb] at e1
          refine ⟨e5, v, e1, .inr ⟨f, _, run_callFunc hF _ w, g4.mono ?_⟩⟩
          rintro e w' ⟨v', E', rfl, e1', e2', _, e4', _, _⟩
          rw [Sv.den_agree e2' hb, e1] at e1'
          cases e1'
          exact ⟨rfl, e4'⟩
    · cases h

theorem slots_sub (ops : List Oper) (o : Oper) : ∀ t ∈ tmpsOf o.op.operands.toList, t ∈ slotsOf ops o := by
  intro t ht
  unfold slotsOf
  split
  · split
    · exact List.mem_cons_of_mem _ ht
    · exact ht
  · exact ht
theorem mem_tmpsOf : ∀ {l : List Operand} {t : Tmp}, Operand.tmp t ∈ l → t ∈ tmpsOf l
  | x :: l, t, h => by
    cases h with
    | head => exact List.mem_cons_self ..
    | tail _ h =>
      have := mem_tmpsOf h
      cases x <;> simp only [tmpsOf] <;> first | exact List.mem_cons_of_mem _ this | exact this
theorem orel_of {η : Env} {E : Emb} {tm : T Sv} {a : Act} {ops : Array Operand} (h : ∀ t ∈ tmpsOf ops.toList, ∀ s, tm.get t = some s → ∃ v, a.tmps[t]? = some v ∧ s.den η E = some v) : ∀ x ∈ ops, ORel η E tm a x := by
  intro x hx sv hsv
  cases x with
  | tmp t =>
    obtain ⟨v, h1, h2⟩ := h t (mem_tmpsOf (by simpa using hx)) sv hsv
    simp only [Act.eval, Array.getD_eq_getD_getElem?, h1, Option.getD_some]; exact h2
  | const v => exact litV_den hsv
  | func f => cases hsv; rfl
  | global g => cases hsv

theorem quietX_run {C : Cx} {P : Program} {η : Env} (hC : C.Ok P η) {ih : FI → List Sv → St → Tree (Sv × St)} (hih : CallOk P η ih) {o : Oper} {st : St} {sv : Sv} {pc : PC} (hpc : st.pc.holds η)
    (h : (quietX C ih o.op st).at_ η = some (sv, pc)) {E : Emb} {lo base : Nat} {a : Act} {w : World} (hH : HRel η E st.hp st.nx lo base w) (hf : ∀ x ∈ o.op.operands, ORel η E st.tm a x) :
    pc.holds η ∧ ∃ v, sv.den η E = some v ∧ QStep P o a w v := by
  have plain : (qop C st.hp st.tm st.pc o.op).at_ η = some (sv, pc) → pc.holds η ∧ ∃ v, sv.den η E = some v ∧ QStep P o a w v := fun h => by
    obtain ⟨g1, v, g2, g3⟩ := qop_run hC hH hpc hf h
    exact ⟨g1, v, g2, .inl g3⟩
  unfold quietX at h
  split at h
  · rename_i c ho
    split at h
    · rename_i fx hcal
      split at h
      · rename_i f caps args hfx hargs
        have ef := hf fx (by rw [ho]; simp [Op.operands, Call.operands, hcal]) _ hfx
        simp only [Sv.den, Sc.den, Option.map_eq_some_iff] at ef
        obtain ⟨l, hl, ef⟩ := ef
        have ea := evL_den (fun x hx => hf x (by rw [ho]; simp only [Op.operands, Call.operands, hcal]; simp at hx ⊢; exact .inr hx)) hargs
        have eall := denArgs_append ea (capS_den (η := η) hl)
        have hexec : (execOp a.eval o).run P w = (callFunc f (List.map a.eval c.args.toList ++ l).toArray).run P w := by
          have e1 : c.args.map a.eval = (List.map a.eval c.args.toList).toArray := by rw [← Array.toList_map, Array.toArray_toList]
          simp only [execOp, ho, resolve, hcal, ← ef, Deferred.ofValue, Sem.run_bind, Sem.run_pure, Result.andThen_ok, invoke, e1]
          simp
        obtain ⟨g1, v, g2, g3⟩ := callQ_run hC hih hpc h hH eall
        refine ⟨g1, v, g2, ?_⟩
        unfold QStep
        rw [hexec]
        exact g3
      · cases h
    · exact plain (by rw [ho]; exact h)
  · exact plain h

theorem headX_run {C : Cx} {P : Program} {η : Env} (hC : C.Ok P η) {ih : FI → List Sv → St → Tree (Sv × St)} (hih : CallOk P η ih) {ops : Array Oper} {o : Oper} {st : St} {sv : Sv} {pc : PC} (hpc : st.pc.holds η)
    (h : (headX C ih ops.toList o st).at_ η = some (sv, pc)) {E : Emb} {lo base : Nat} {a : Act} {w : World} (hH : HRel η E st.hp st.nx lo base w) (hs : ∀ t ∈ slotsOf ops.toList o, ∀ s, st.tm.get t = some s → ∃ v, a.tmps[t]? = some v ∧ s.den η E = some v) {i : Nat} (hi : ops[i]? = some o) :
    pc.holds η ∧ ∃ v, sv.den η E = some v ∧ ∃ S : World → Prop, (∃ w', S w') ∧ (∀ w', S w' → Below w.heap.size w w') ∧
      ∀ (Q : Exit → Act → World → Prop) (K : Act → World → Prop), (∀ w', S w' → K (a.put o.dst v) w') → wpOp P ops Q i K a w := by
  have hf := orel_of (fun t ht => hs t (slots_sub _ _ t ht))
  unfold headX at h
  split at h
  · rename_i hg
    obtain ⟨g1, v, g2, g3⟩ := quietX_run hC hih hpc h hH hf
    obtain ⟨S, s1, s2, s3⟩ := g3.wp
    refine ⟨g1, v, g2, S, s1, s2, fun Q K hK => ?_⟩
    unfold wpOp
    simp only [hi, Region.wanted, hg, if_true]
    exact .inl (s3 Q K hK)
  · rename_i j want hg
    split at h
    · rename_i d hd
      split at h
      · rename_i bx hb
        obtain ⟨pc1, hp1, h1⟩ := at_branch hC.D hpc h
        obtain ⟨v, hv1, hv2⟩ := hs d (by unfold slotsOf; rw [hg]; simp only [hd]; exact List.mem_cons_self ..) _ hb
        simp only [Sv.den, Sc.den, Option.some.injEq] at hv2
        subst hv2
        have hy : yielded ops a.tmps j = some (bx.den η) := by
          unfold gslot at hd
          rw [nth_eq, Array.getElem?_toList] at hd
          unfold yielded
          cases hoj : ops[j]? with
          | none => rw [hoj] at hd; cases hd
          | some oj =>
            rw [hoj] at hd
            simp only at hd
            simp [hd, hv1]
        have hwant : Region.wanted o (yielded ops a.tmps) = (bx.den η == want) := by
          simp only [Region.wanted, hg, hy]; rfl
        split at h1
        · rename_i he
          obtain ⟨g1, v, g2, g3⟩ := quietX_run hC hih (st := { st with pc := pc1 }) hp1 h1 hH hf
          obtain ⟨S, s1, s2, s3⟩ := g3.wp
          refine ⟨g1, v, g2, S, s1, s2, fun Q K hK => ?_⟩
          unfold wpOp
          simp only [hi, hwant, he, if_true]
          exact .inl (s3 Q K hK)
        · rename_i he
          cases h1
          refine ⟨hp1, undef, rfl, fun w' => w' = w, ⟨w, rfl⟩, fun w' e => by subst e; exact Below.refl _ _, fun Q K hK => ?_⟩
          unfold wpOp
          simp only [hi, hwant, he, Bool.false_eq_true, if_false]
          exact hK w rfl
      · rename_i hb
        cases h
        obtain ⟨v, hv1, hv2⟩ := hs d (by unfold slotsOf; rw [hg]; simp only [hd]; exact List.mem_cons_self ..) _ hb
        simp only [Sv.den, Option.some.injEq] at hv2
        subst hv2
        have hwant : Region.wanted o (yielded ops a.tmps) = false := wanted_undef hg hd hv1
        refine ⟨hpc, undef, rfl, fun w' => w' = w, ⟨w, rfl⟩, fun w' e => by subst e; exact Below.refl _ _, fun Q K hK => ?_⟩
        unfold wpOp
        simp only [hi, hwant, Bool.false_eq_true, if_false]
        exact hK w rfl
      · cases h
    · cases h

end
end Go.Ex
