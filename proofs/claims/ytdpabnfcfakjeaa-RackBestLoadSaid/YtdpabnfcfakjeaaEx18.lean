/-
 That the executor of regions that draw their order is right: its parts.
-/
import Derived.Test.YtdpabnfcfakjeaaEx17

namespace Go.Ex
open Go Go.RowKit
noncomputable section
variable {ro : Option Nat} {m : Nat}

theorem Calls.exists {P : Program} {f : FuncId} {args : Array Value} {w : World} {R : Ending → World → Prop} (h : Calls P f args w R) : ∃ e w', R e w' := by
 obtain ⟨e, w', _, hR, _⟩ := h []
 exact ⟨e, w', hR⟩

/-- An operation that hands back v and leaves all that there was as it was. -/
def GQ (P : Program) (o : Oper) (a : Act) (w : World) (v : Value) : Prop :=
 (execOp a.eval o).run P w = .ok (.value v) w ∨ ∃ f args, (execOp a.eval o).run P w = .ok (.enter f args) w ∧ Calls P f args w fun e w' => e = .returned v ∧ Below w.heap.size w w'

theorem GQ.wp {P : Program} {o : Oper} {a : Act} {w : World} {v : Value} (h : GQ P o a w v) : ∃ S : World → Prop, (∃ w', S w') ∧ (∀ w', S w' → Below w.heap.size w w') ∧
  ∀ (Q : Exit → Act → World → Prop) (K : Act → World → Prop), (∀ w', S w' → K (a.put o.dst v) w') → o.wpIn (FW ro) m P a w K Q := by
 rcases h with h | ⟨f, args, h, hc⟩
 ·refine ⟨fun w' => w' = w, ⟨w, rfl⟩, fun w' e => by subst e; exact Below.refl _ _, fun Q K hK => ?_⟩
  exact eN h (hK w rfl)
 ·refine ⟨fun w' => Below w.heap.size w w', ?_, fun _ h => h, fun Q K hK => ?_⟩
  ·obtain ⟨e, w', _, hb⟩ := Calls.exists hc
   exact ⟨w', hb⟩
  ·refine nN h (hc.mono ?_)
   rintro e w' ⟨rfl, hb⟩
   exact ⟨v, rfl, hK w' hb⟩

theorem N7 {C : Cx} {P : Program} {η : Env} (hC : C.Ok P η) {ih : FI → List Sv → St → aA (Sv × St)} (hih : eR P η ih) {f : FuncId} {args : List Sv} {st : St} {sv : Sv} {pc : PC} (hpc : st.pc.holds η)
  (h : (PM C ih f args st).at_ η = some (sv, pc)) {E : Emb} {lo base : Nat} {w : World} {vs : List Value} (hH : aD η E st.hp st.nx lo base w) (hv : aB η E args = some vs) :
  pc.holds η ∧ ∃ v, sv.den η E = some v ∧ ((callFunc f vs.toArray).run P w = .ok (.value v) w ∨ ∃ f' args', (callFunc f vs.toArray).run P w = .ok (.enter f' args') w ∧ Calls P f' args' w fun e w' => e = .returned v ∧ Below w.heap.size w w') := by
 unfold PM at h
 split at h
 ·rename_i g hg
  obtain ⟨hp1, hg1⟩ := xO hC hg (top := st.nx) h hpc
  obtain ⟨v, e1, e2⟩ := hg1 E _ _ w vs hH (hH.rfree _ (Nat.le_refl _)) hv
  refine ⟨hp1, v, e1, ?_⟩
  rcases e2 with e2 | ⟨e2, e3⟩
  ·exact .inl e2
  ·exact .inr ⟨f, _, e2, e3⟩
 ·split at h
  ·rename_i g hg
   obtain ⟨hp1, hg1⟩ := hC.hs f g hg st.hp args st.pc sv pc h hpc
   obtain ⟨v, e1, e2⟩ := hg1 E vs _ _ _ w hH hv
   refine ⟨hp1, v, e1, ?_⟩
   rcases e2 with e2 | ⟨e2, e3⟩
   ·exact .inl e2
   ·exact .inr ⟨f, _, e2, e3⟩
  split at h
  ·rename_i fi hfi
   have hF := hC.ft f fi hfi
   cases hq : fi.quiet with
   | false => rw [hq] at h; cases h
   | true =>
    rw [hq] at h
    obtain ⟨r1, h1, h2⟩ := aA.at_bind h
    cases hb : below st.nx r1.1 with
    | false => rw [hb] at h2; cases h2
    | true =>
     rw [hb] at h2; cases h2
     have g3 := hih fi args { st with lo := st.nx } r1 h1 f hF hpc (Nat.le_refl _)
     have g4 := g3 E.z00 w.heap.size w w vs hH.z00 (Below.refl _ _) (dN E.le_z00 hv)
     obtain ⟨_, w1, v, E1, _, e1, e2, _, _, e5, _⟩ := Calls.exists g4
     rw [Sv.den_agree e2 hb] at e1
     refine ⟨e5, v, Sv.den_mono E.z00_le e1, .inr ⟨f, _, cA hF _ w, g4.mono ?_⟩⟩
     rintro e w' ⟨v', E', rfl, e1', e2', _, e4', _, _⟩
     rw [Sv.den_agree e2' hb, e1] at e1'
     cases e1'
     exact ⟨rfl, e4'⟩
  ·cases h

theorem f8 (ops : List Oper) (o : Oper) : ∀ t ∈ mC o.op.operands.toList, t ∈ eF ops o := by
 intro t ht
 unfold eF
 split
 ·split
  ·exact List.mem_cons_of_mem _ ht
  ·exact ht
 ·exact ht
theorem p6 : ∀ {l : List Operand} {t : Tmp}, Operand.tmp t ∈ l → t ∈ mC l
 | x :: l, t, h => by
  cases h with
  | head => exact List.mem_cons_self ..
  | tail _ h =>
   have := p6 h
   cases x <;> simp only [mC] <;> first | exact List.mem_cons_of_mem _ this | exact this
theorem mF {η : Env} {E : Emb} {tm : T Sv} {a : Act} {ops : Array Operand} (h : ∀ t ∈ mC ops.toList, ∀ s, tm.get t = some s → ∃ v, a.tmps[t]? = some v ∧ s.den η E = some v) : ∀ x ∈ ops, mH η E tm a x := by
 intro x hx sv hsv
 cases x with
 | tmp t =>
  obtain ⟨v, h1, h2⟩ := h t (p6 (by simpa using hx)) sv hsv
  simp only [Act.eval, Array.getD_eq_getD_getElem?, h1, Option.getD_some]; exact h2
 | const v => exact G0 hsv
 | func f => cases hsv; rfl
 | global g => cases hsv

theorem xZ {C : Cx} {P : Program} {η : Env} (hC : C.Ok P η) {ih : FI → List Sv → St → aA (Sv × St)} (hih : eR P η ih) {o : Oper} {st : St} {sv : Sv} {pc : PC} (hpc : st.pc.holds η)
  (h : (DV C ih o.op st).at_ η = some (sv, pc)) {E : Emb} {lo base : Nat} {a : Act} {w : World} (hH : aD η E st.hp st.nx lo base w) (hf : ∀ x ∈ o.op.operands, mH η E st.tm a x) :
  pc.holds η ∧ ∃ v, sv.den η E = some v ∧ GQ P o a w v := by
 have plain : (qop C st.hp st.tm st.pc o.op).at_ η = some (sv, pc) → pc.holds η ∧ ∃ v, sv.den η E = some v ∧ GQ P o a w v := fun h => by
  obtain ⟨g1, v, g2, g3⟩ := MG hC hH hpc hf h
  exact ⟨g1, v, g2, .inl g3⟩
 unfold DV at h
 split at h
 ·rename_i c ho
  split at h
  ·rename_i fx hcal
   split at h
   ·rename_i f caps args hfx hargs
    have ef := hf fx (by rw [ho]; simp [Op.operands, Call.operands, hcal]) _ hfx
    simp only [Sv.den, Sc.den, Option.map_eq_some_iff] at ef
    obtain ⟨l, hl, ef⟩ := ef
    have ea := jB (fun x hx => hf x (by rw [ho]; simp only [Op.operands, Call.operands, hcal]; simp at hx ⊢; exact .inr hx)) hargs
    have eall := d9 ea (nL (η := η) hl)
    have hexec : (execOp a.eval o).run P w = (callFunc f (List.map a.eval c.args.toList ++ l).toArray).run P w := by
     have e1 : c.args.map a.eval = (List.map a.eval c.args.toList).toArray := by rw [← Array.toList_map, Array.toArray_toList]
     simp only [execOp, ho, resolve, hcal, ← ef, Deferred.ofValue, Sem.run_bind, Sem.run_pure, Result.andThen_ok, invoke, e1]
     simp
    obtain ⟨g1, v, g2, g3⟩ := N7 hC hih hpc h hH eall
    refine ⟨g1, v, g2, ?_⟩
    unfold GQ
    rw [hexec]
    exact g3
   ·cases h
  ·exact plain (by rw [ho]; exact h)
 ·exact plain h

theorem N8 {C : Cx} {P : Program} {η : Env} (hC : C.Ok P η) {ih : FI → List Sv → St → aA (Sv × St)} (hih : eR P η ih) {ops : Array Oper} {o : Oper} {st : St} {sv : Sv} {pc : PC} (hpc : st.pc.holds η)
  (h : (MM C ih ops.toList o st).at_ η = some (sv, pc)) {E : Emb} {lo base : Nat} {a : Act} {w : World} (hH : aD η E st.hp st.nx lo base w) (hs : ∀ t ∈ eF ops.toList o, ∀ s, st.tm.get t = some s → ∃ v, a.tmps[t]? = some v ∧ s.den η E = some v) {i : Nat} (hi : ops[i]? = some o) :
  pc.holds η ∧ ∃ v, sv.den η E = some v ∧ ∃ S : World → Prop, (∃ w', S w') ∧ (∀ w', S w' → Below w.heap.size w w') ∧
   ∀ (Q : Exit → Act → World → Prop) (K : Act → World → Prop), (∀ w', S w' → K (a.put o.dst v) w') → wpOpIn (FW ro) m P ops Q i K a w := by
 have hf := mF (fun t ht => hs t (f8 _ _ t ht))
 unfold MM at h
 split at h
 ·rename_i hg
  obtain ⟨g1, v, g2, g3⟩ := xZ hC hih hpc h hH hf
  obtain ⟨S, s1, s2, s3⟩ := g3.wp (ro := ro) (m := m)
  refine ⟨g1, v, g2, S, s1, s2, fun Q K hK => ?_⟩
  unfold wpOpIn
  simp only [hi, Region.wanted, hg, if_true]
  exact s3 Q K hK
 ·rename_i j want hg
  split at h
  ·rename_i d hd
   split at h
   ·rename_i bx hb
    obtain ⟨pc1, hp1, h1⟩ := bD hC.D hpc h
    obtain ⟨v, hv1, hv2⟩ := hs d (by unfold eF; rw [hg]; simp only [hd]; exact List.mem_cons_self ..) _ hb
    simp only [Sv.den, Sc.den, Option.some.injEq] at hv2
    subst hv2
    have hy : yielded ops a.tmps j = some (bx.den η) := by
     unfold lH at hd
     rw [cI, Array.getElem?_toList] at hd
     unfold yielded
     cases hoj : ops[j]? with
     | none => rw [hoj] at hd; cases hd
     | some oj =>
      rw [hoj] at hd
      simp only at hd
      simp [hd, hv1]
    have hwant : Region.wanted o (yielded ops a.tmps) = (bx.den η == want) := by
     simp only [Region.wanted, hg, hy]; rfl
    split at h1
    ·rename_i he
     obtain ⟨g1, v, g2, g3⟩ := xZ hC hih (st := { st with pc := pc1 }) hp1 h1 hH hf
     obtain ⟨S, s1, s2, s3⟩ := g3.wp (ro := ro) (m := m)
     refine ⟨g1, v, g2, S, s1, s2, fun Q K hK => ?_⟩
     unfold wpOpIn
     simp only [hi, hwant, he, if_true]
     exact s3 Q K hK
    ·rename_i he
     cases h1
     refine ⟨hp1, undef, rfl, fun w' => w' = w, ⟨w, rfl⟩, fun w' e => by subst e; exact Below.refl _ _, fun Q K hK => ?_⟩
     unfold wpOpIn
     simp only [hi, hwant, he, Bool.false_eq_true, if_false]
     exact ⟨fun _ _ => trivial, hK w rfl⟩
   ·rename_i hb
    cases h
    obtain ⟨v, hv1, hv2⟩ := hs d (by unfold eF; rw [hg]; simp only [hd]; exact List.mem_cons_self ..) _ hb
    simp only [Sv.den, Option.some.injEq] at hv2
    subst hv2
    have hwant : Region.wanted o (yielded ops a.tmps) = false := rW hg hd hv1
    refine ⟨hpc, undef, rfl, fun w' => w' = w, ⟨w, rfl⟩, fun w' e => by subst e; exact Below.refl _ _, fun Q K hK => ?_⟩
    unfold wpOpIn
    simp only [hi, hwant, Bool.false_eq_true, if_false]
    exact ⟨fun _ _ => trivial, hK w rfl⟩
   ·cases h
  ·cases h

/-- A call that hands back memory of its own, at an operation. -/
theorem MP {C : Cx} {P : Program} {η : Env} {o : Oper} {tm : T Sv} {f : FuncId} {g : List Sv → PC → aA (Sv × PC)} {args : List Sv} (h : gOf C tm o = some (f, g, args)) {E : Emb} {a : Act} (hf : ∀ x ∈ o.op.operands, mH η E tm a x) :
  o.guard = none ∧ C.gs.get f = some g ∧ ∃ vs, aB η E args = some vs ∧ ∀ w, (execOp a.eval o).run P w = (callFunc f vs.toArray).run P w := by
 unfold gOf at h
 split at h
 ·rename_i c hg ho
  split at h
  ·rename_i fx hcal
   split at h
   ·rename_i f' caps args' hfx hargs
    split at h
    ·rename_i hgs
     cases h
     have ef := hf fx (by rw [ho]; simp [Op.operands, Call.operands, hcal]) _ hfx
     simp only [Sv.den, Sc.den, Option.map_eq_some_iff] at ef
     obtain ⟨l, hl, ef⟩ := ef
     have ea := jB (fun x hx => hf x (by rw [ho]; simp only [Op.operands, Call.operands, hcal]; simp at hx ⊢; exact .inr hx)) hargs
     have eall := d9 ea (nL (η := η) hl)
     refine ⟨hg, hgs, _, eall, fun w => ?_⟩
     have e1 : c.args.map a.eval = (List.map a.eval c.args.toList).toArray := by rw [← Array.toList_map, Array.toArray_toList]
     simp only [execOp, ho, resolve, hcal, ← ef, Deferred.ofValue, Sem.run_bind, Sem.run_pure, Result.andThen_ok, invoke, e1]
     simp
    ·cases h
   ·cases h
  ·cases h
 ·cases h

theorem SK {C : Cx} {P : Program} {η : Env} {o : Oper} {tm : T Sv} {f : FuncId} {fi : FI} {args : List Sv} (h : lOf C tm o = some (f, fi, args)) {E : Emb} {a : Act} (hf : ∀ x ∈ o.op.operands, mH η E tm a x) :
  o.guard = none ∧ C.ft.get f = some fi ∧ ∃ vs, aB η E args = some vs ∧ ∀ w, (execOp a.eval o).run P w = (callFunc f vs.toArray).run P w := by
 unfold lOf at h
 split at h <;> first | (cases h; done) | skip
 rename_i c hg ho
 split at h <;> first | (cases h; done) | skip
 rename_i fx hcal
 split at h <;> first | (cases h; done) | skip
 rename_i f' caps args' hfx hargs
 split at h <;> first | (cases h; done) | skip
 rename_i fi' _ _ _ hfi
 split at h <;> first | (cases h; done) | skip
 cases h
 have ef := hf fx (by rw [ho]; simp [Op.operands, Call.operands, hcal]) _ hfx
 simp only [Sv.den, Sc.den, Option.map_eq_some_iff] at ef
 obtain ⟨l, hl, ef⟩ := ef
 have ea := jB (fun x hx => hf x (by rw [ho]; simp only [Op.operands, Call.operands, hcal]; simp at hx ⊢; exact .inr hx)) hargs
 have eall := d9 ea (nL (η := η) hl)
 refine ⟨hg, hfi, _, eall, fun w => ?_⟩
 have e1 : c.args.map a.eval = (List.map a.eval c.args.toList).toArray := by rw [← Array.toList_map, Array.toArray_toList]
 simp only [execOp, ho, resolve, hcal, ← ef, Deferred.ofValue, Sem.run_bind, Sem.run_pure, Result.andThen_ok, invoke, e1]
 simp

theorem GR {C : Cx} {ops : List Oper} {tm : T Sv} {o : Oper} {bx : Bx} {want : Bool} {x : FuncId × (List Sv → PC → aA (Sv × PC)) × List Sv} (h : J4 C ops tm o = some (bx, want, x)) : ∃ j d, o.guard = some (j, want) ∧ lH ops j = some d ∧ tm.get d = some (.one (.bool bx)) ∧ gOf C tm { o with guard := none } = some x := by
 unfold J4 at h
 split at h <;> first | (cases h; done) | skip
 rename_i j want' hg
 split at h <;> first | (cases h; done) | skip
 rename_i d hd
 split at h <;> first | (cases h; done) | skip
 rename_i bx' x' hb hx
 cases h
 exact ⟨j, d, hg, hd, hb, hx⟩
theorem N9 {C : Cx} {tm : T Sv} {hp : T Blk} {lo : Nat} {o : Oper} {r : Nat × Blk × Nat} (h : cOf C tm hp lo o = some r) : g8 o = true := by
 unfold cOf at h
 split at h <;> first | (cases h; done) | skip
 rename_i c hg ho
 split at h <;> first | (cases h; done) | skip
 rename_i hcal
 simp [g8, ho, hcal]
theorem SL {C : Cx} {P : Program} {η : Env} {E : Emb} (hC : C.Ok P η) {hp hpi : T Blk} {nx lo base : Nat} {w w0 : World} (hH : aD η E hp nx lo base w) (hB : Below base w0 w) (hs : ∀ i b, hpi.get i = some b → hp.get i = some b) {o : Oper} {tm : T Sv} {r : Nat × Blk × Nat} (h : cOf C tm hpi lo o = some r) {a : Act} (hf : ∀ x ∈ o.op.operands, mH η E tm a x) :
  o.guard = none ∧ g8 o = true ∧ (∃ b, hpi.get r.1 = some b) ∧ ∃ w', (execOp a.eval o).run P w = .ok (.value (goInt r.2.2)) w' ∧ aD η E (hp.set r.1 (some r.2.1)) nx lo base w' ∧ Below base w0 w' := by
 unfold cOf at h
 split at h <;> first | (cases h; done) | skip
 rename_i c hg ho
 split at h <;> first | (cases h; done) | skip
 rename_i hcal
 split at h <;> first | (cases h; done) | skip
 rename_i l hl
 have ea := jB (fun x hx => hf x (by rw [ho]; simp only [Op.operands, Call.operands, hcal]; simpa using hx)) hl
 obtain ⟨h1, h2⟩ := N4 hs h
 obtain ⟨w', r1, r2, r3⟩ := B5 (hp' := hp.set r.1 (some r.2.1)) (k := r.2.2) hC hH hB (show GI C hp lo c.argTypes.toList l = _ by simp only [GI, h1]) ea o.type
 refine ⟨hg, by simp [g8, ho, hcal], h2, w', ?_, r2, r3⟩
 have e1 : c.args.map a.eval = (List.map a.eval c.args.toList).toArray := by rw [← Array.toList_map, Array.toArray_toList]
 simp only [execOp, ho, resolve, hcal, Sem.run_bind, Sem.run_pure, Result.andThen_ok, invoke, e1, builtin]
 simp only [Array.toArray_toList] at r1
 rw [r1]
 rfl

/-- A block of new memory is taken up. -/
theorem aD.adopt {η : Env} {E : Emb} {hp : T Blk} {nx lo base : Nat} {w w' : World} (h : aD η E hp nx lo base w) (hb : Below w.heap.size w w') {n B K : Nat} {b : Blk} (hn : E n = none) (hnx : n < nx) (hB : w.heap.size ≤ B) (hB' : B < w'.heap.size)
  (hr : b.Rel η (E.set n (B, K)) K w'.heap[B]?) (hbm : b.noM := by trivial) : aD η (E.set n (B, K)) (hp.set n (some b)) nx lo base w' := by
 have hle : E.le (E.set n (B, K)) := Emb.le_set hn
 have h' := h.below hb
 have hget : ∀ i c, (hp.set n (some b)).get i = some c → (i = n ∧ c = b) ∨ (i ≠ n ∧ hp.get i = some c) := by
  intro i c hi
  by_cases hin : i = n
  ·subst hin
   rw [T.get_set_same _ _ _ (by have := h.lim; omega)] at hi
   cases hi; exact .inl ⟨rfl, rfl⟩
  ·rw [T.get_set_ne _ _ _ _ (Ne.symm hin)] at hi
   exact .inr ⟨hin, hi⟩
 refine ⟨?_, ?_, ?_, ?_, ?_, h'.bot, ?_, h.lim, h'.zw, ?_, h.rfree, ?_, h.rn, h'.mt.keep (fun _ _ => rfl) (Nat.le_refl _) h'.mt.hi (Nat.le_refl _) (fun b' q' e' s' n' x' m' f' hg => by
  rcases hget b' _ hg with ⟨_, hb'⟩ | ⟨hne, hg⟩
  ·subst hb'; exact hbm.elim
  ·exact ⟨hg, Emb.set_ne _ _ hne⟩) (fun _ _ _ h => h) (fun _ _ => rfl) (fun _ _ => rfl) h'.mt.z (fun C hC j c K' hj hE => by
  rcases hget j c hj with ⟨ej, _⟩ | ⟨hne, hj'⟩
  ·subst ej; rw [Emb.set_same] at hE
   have := MIn.lt h.mt hC
   cases hE; omega
  ·rw [Emb.set_ne _ _ hne] at hE
   exact h'.mt.own C hC j c K' hj' hE)⟩
 ·intro i c hi
  rcases hget i c hi with ⟨rfl, _⟩ | ⟨_, hi⟩
  ·exact hnx
  ·exact h.dom i c hi
 ·intro i c hi
  rcases hget i c hi with ⟨rfl, rfl⟩ | ⟨hne, hi⟩
  ·exact ⟨B, K, Emb.set_same .., hr⟩
  ·obtain ⟨C, L, hE, hr'⟩ := h'.cell i c hi
   exact ⟨C, L, by rw [Emb.set_ne _ _ hne]; exact hE, hr'.mono hle⟩
 ·intro i j c d C D L M hne hi hj hE hE'
  rcases hget i c hi with ⟨rfl, _⟩ | ⟨hni, hi⟩ <;> rcases hget j d hj with ⟨rfl, _⟩ | ⟨hnj, hj⟩
  ·exact absurd rfl hne
  ·rw [Emb.set_same] at hE; rw [Emb.set_ne _ _ hnj] at hE'
   have := h.top j D M hE'
   cases hE; omega
  ·rw [Emb.set_same] at hE'; rw [Emb.set_ne _ _ hni] at hE
   have := h.top i C L hE
   cases hE'; omega
  ·rw [Emb.set_ne _ _ hni] at hE; rw [Emb.set_ne _ _ hnj] at hE'
   exact h.inj i j c d C D L M hne hi hj hE hE'
 ·intro i C L hl hE
  by_cases hin : i = n
  ·subst hin; rw [Emb.set_same] at hE; cases hE; exact Nat.le_trans h.bot hB
  ·rw [Emb.set_ne _ _ hin] at hE; exact h.hi i C L hl hE
 ·intro i C L hE
  by_cases hin : i = n
  ·subst hin; rw [Emb.set_same] at hE; cases hE; exact hB'
  ·rw [Emb.set_ne _ _ hin] at hE; exact h'.top i C L hE
 ·intro i hi
  rw [Emb.set_ne _ _ (by omega)]; exact h.free i hi
 ·intro i c C L hi ho hE o
  cases hz : (E.set n (B, K)).z C o with
  | none => rfl
  | some v =>
   exfalso
   have hz : E.z C o = some v := hz
   rcases hget i c hi with ⟨rfl, _⟩ | ⟨hni, hi⟩
   ·rw [Emb.set_same] at hE
    have := h.zlt hz
    cases hE; omega
   ·rw [Emb.set_ne _ _ hni] at hE
    rw [h.zd i c C L hi ho hE o] at hz
    cases hz
 ·intro D o hD
  obtain ⟨d1, d2, d3, d4⟩ := h'.dk D o hD
  refine ⟨d1, d2, d3, fun i L hE => ?_⟩
  by_cases hin : i = n
  ·subst hin
   rw [Emb.set_same] at hE
   have := (Array.getElem?_eq_some_iff.1 (h.dk D o hD).2.1).1
   cases hE; omega
  ·rw [Emb.set_ne _ _ hin] at hE; exact d4 i L hE
theorem J7 {η : Env} {E E' : Emb} {c : Sc} (h : J5 c = true) : c.den η E = c.den η E' := by
 cases c <;> first | rfl | cases h
theorem uX {η : Env} {E E' : Emb} : ∀ {l : List Sc}, l.all J5 = true → aL η E l = aL η E' l
 | [], _ => rfl
 | c :: l, h => by
  simp only [List.all_cons, Bool.and_eq_true] at h
  simp only [aL, J7 (E := E) (E' := E') h.1, uX (E := E) (E' := E') h.2]
theorem x6 : ∀ {cs : List Sh} {j : Nat}, cs.all fM = true → j < cs.length → fM (iD cs j) = true
 | [], j, _, hj => by simp at hj
 | s :: l, 0, h, _ => by
  simp only [List.all_cons, Bool.and_eq_true] at h
  exact h.1
 | s :: l, j + 1, h, hj => by
  simp only [List.all_cons, Bool.and_eq_true] at h
  show fM (iD l j) = true
  exact x6 h.2 (by simpa using hj)
/-- What a call has made, taken up. -/
theorem D3 {η : Env} {E E' : Emb} {hp hp' : T Blk} {nx nx' lo base : Nat} {w w' : World} (h : aD η E hp nx lo base w) (hb : Below w.heap.size w w') {s s' : Sv} {blk : Blk} {m : Nat} {v : Value} (ho : DW hp' nx m s = some (blk, s')) (h' : aD η E' hp' nx' nx w.heap.size w')
  (hm : E m = none) (hmn : m < nx) (hv : s.den η E' = some v) : ∃ B K, aD η (E.set m (B, K)) (hp.set m (some blk)) nx lo base w' ∧ s'.den η (E.set m (B, K)) = some v := by
 unfold DW at ho
 split at ho
 ·rename_i b n r
  split at ho
  ·rename_i e sz l hbk
   split at ho
   ·rename_i hc
    cases ho
    simp only [Bool.and_eq_true] at hc
    have hlo := Nat.le_of_ble_eq_true hc.1
    obtain ⟨B, K, hE, c, vs, rest, q1, q2, q3, q4, q5⟩ := h'.cell b _ hbk
    refine ⟨B, K, h.adopt hb hm hmn (h'.hi b B K hlo hE) (h'.top b B K hE) ⟨c, vs, rest, q1, q2, q3, by rw [uX (E' := E') hc.2]; exact q4, q5⟩, ?_⟩
    simp only [Sv.den, Sc.den, hE] at hv
    simp only [Sv.den, Sc.den, Emb.set_same]
    exact hv
   ·cases ho
  ·cases ho
 ·rename_i b n
  split at ho
  ·rename_i e cs n' f hbk
   split at ho
   ·rename_i hc
    cases ho
    simp only [Bool.and_eq_true] at hc
    have hlo := Nat.le_of_ble_eq_true hc.1
    obtain ⟨B, K, hE, c, q1, q2, q3, q4, q5, q6⟩ := h'.cell b _ hbk
    refine ⟨B, K, h.adopt hb hm hmn (h'.hi b B K hlo hE) (h'.top b B K hE) ⟨c, q1, q2, q3, q4, q5, fun i hi j hj => ?_⟩, ?_⟩
    ·obtain ⟨k1, u, k2, k3⟩ := q6 i hi j hj
     exact ⟨k1, u, k2, k3.plain (x6 hc.2 hj) k1⟩
    ·simp only [Sv.den, Sc.den, hE] at hv
     simp only [Sv.den, Sc.den, Emb.set_same]
     exact hv
   ·cases ho
  ·cases ho
 ·cases ho

end
end Go.Ex

