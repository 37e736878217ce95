/-
  Arguments of numbers alone, in structs and arrays.
-/
import Derived.Test.YtdpabnfcfakjeaaLwJa

namespace Go.Ex
open Go Go.RowKit Go.WideShapes Go.ChangeShapes
noncomputable section
inductive AK where
  | i
  | k (n : Int)
  | f
  | c
/-! ## Types of numbers alone -/
def flatFs (P : Program) (F : TypeId → Option (List AK)) : List Field → Nat → Option (List AK)
  | [], _ => some []
  | f :: l, off => bif Nat.beq f.offset off then (match F f.type with
    | some ks => bif Nat.beq ks.length (P.cellsOf f.type) then (match flatFs P F l (off + ks.length) with
      | some r => some (ks ++ r)
      | none => none) else none
    | none => none) else none
def flatT (P : Program) : Nat → TypeId → Option (List AK)
  | 0, _ => none
  | n + 1, t => match P.underlying t with
    | some (.int .i64) => some [.i]
    | some (.float .f64) => some [.f]
    | some (.struct fs) => match flatFs P (flatT P n) fs.toList 0 with
      | some ks => bif Nat.beq ks.length (P.cellsOf t) then some ks else none
      | none => none
    | some (.array m e) => match flatT P n e with
      | some ks => bif Nat.beq ks.length (P.cellsOf e) && Nat.beq (m * ks.length) (P.cellsOf t) then some (List.replicate m ks).flatten else none
      | none => none
    | _ => none

def LeafOk : AK → Value → Prop
  | .i, c => ∃ n, c = .int .i64 n ∧ -9223372036854775808 ≤ n ∧ n ≤ 9223372036854775807
  | .f, c => ∃ b, c = .float .f64 b ∧ b < 18446744073709551616
  | _, _ => False
def LeafsOk : List AK → List Value → Prop
  | [], [] => True
  | k :: ks, c :: cs => LeafOk k c ∧ LeafsOk ks cs
  | _, _ => False
theorem LeafsOk.append : ∀ {k1 k2 : List AK} {c1 c2 : List Value}, LeafsOk k1 c1 → LeafsOk k2 c2 → LeafsOk (k1 ++ k2) (c1 ++ c2)
  | [], _, [], _, _, h => h
  | [], _, _ :: _, _, h, _ => h.elim
  | _ :: _, _, [], _, h, _ => h.elim
  | _ :: _, _, _ :: _, _, h, h' => ⟨h.1, LeafsOk.append h.2 h'⟩
theorem LeafsOk.len : ∀ {k : List AK} {c : List Value}, LeafsOk k c → c.length = k.length
  | [], [], _ => rfl
  | [], _ :: _, h => h.elim
  | _ :: _, [], h => h.elim
  | _ :: _, _ :: _, h => by simp [LeafsOk.len h.2]

theorem mapM_some {α β : Type} {f : α → Option β} : ∀ {l : List α} {xs : List β}, l.mapM f = some xs → ∀ a ∈ l, ∃ y ∈ xs, f a = some y
  | [], xs, _, a, ha => by cases ha
  | b :: l, xs, h, a, ha => by
    simp only [List.mapM_cons, Option.bind_eq_bind, Option.bind_eq_some_iff, Option.pure_def, Option.some.injEq] at h
    obtain ⟨y, h1, ys, h2, rfl⟩ := h
    cases ha with
    | head => exact ⟨y, List.mem_cons_self .., h1⟩
    | tail _ ha =>
      obtain ⟨z, hz, hf⟩ := mapM_some h2 a ha
      exact ⟨z, List.mem_cons_of_mem _ hz, hf⟩
theorem mapM_of {α β : Type} {f g : α → Option β} : ∀ {l : List α} {xs : List β}, l.mapM f = some xs → (∀ a ∈ l, ∀ y, f a = some y → g a = some y) → l.mapM g = some xs
  | [], xs, h, _ => by simpa using h
  | b :: l, xs, h, hg => by
    simp only [List.mapM_cons, Option.bind_eq_bind, Option.bind_eq_some_iff, Option.pure_def, Option.some.injEq] at h ⊢
    obtain ⟨y, h1, ys, h2, rfl⟩ := h
    exact ⟨y, hg b (List.mem_cons_self ..) y h1, ys, mapM_of h2 (fun a ha => hg a (List.mem_cons_of_mem _ ha)), rfl⟩
theorem mapM_back {α β : Type} {f : α → Option β} : ∀ {l : List α} {xs : List β}, l.mapM f = some xs → ∀ y ∈ xs, ∃ a ∈ l, f a = some y
  | [], xs, h, y, hy => by
    simp at h; subst h; cases hy
  | b :: l, xs, h, y, hy => by
    simp only [List.mapM_cons, Option.bind_eq_bind, Option.bind_eq_some_iff, Option.pure_def, Option.some.injEq] at h
    obtain ⟨z, h1, ys, h2, rfl⟩ := h
    cases hy with
    | head => exact ⟨b, List.mem_cons_self .., h1⟩
    | tail _ hy =>
      obtain ⟨a, ha, hf⟩ := mapM_back h2 y hy
      exact ⟨a, List.mem_cons_of_mem _ ha, hf⟩

section
variable {H : Type} {enc : TypeId × Value → H} {P : Program}
theorem trod_struct_eq {w : World} {b : Nat} {sp : Nat → Bool} {hd : Bool} {n : Nat} {t : TypeId} {fs : Array Field} {cs : List Value} (ht : P.underlying t = some (.struct fs)) :
    DataW.trod enc P w b sp hd (n + 1) t cs = if cs.length = P.cellsOf t then (fs.toList.mapM fun f => DataW.trod enc P w b sp hd n f.type ((cs.drop f.offset).take (P.cellsOf f.type))).map fun xs => (.agg (xs.map (·.1)), xs.flatMap (·.2)) else none := by
  conv => lhs; unfold DataW.trod
  rw [ht]
theorem trod_array_eq {w : World} {b : Nat} {sp : Nat → Bool} {hd : Bool} {n : Nat} {t e : TypeId} {m : Nat} {cs : List Value} (ht : P.underlying t = some (.array m e)) :
    DataW.trod enc P w b sp hd (n + 1) t cs = if cs.length = P.cellsOf t then ((List.range m).mapM fun i => DataW.trod enc P w b sp hd n e ((cs.drop (i * P.cellsOf e)).take (P.cellsOf e))).map fun xs => (.agg (xs.map (·.1)), xs.flatMap (·.2)) else none := by
  conv => lhs; unfold DataW.trod
  rw [ht]

theorem flatFs_leafs {F : TypeId → Option (List AK)} {G : TypeId → List Value → Option (DataW H × List MemPlace)} (hG : ∀ t ks cs x, F t = some ks → G t cs = some x → LeafsOk ks cs) (cs : List Value) :
    ∀ (l : List Field) (off : Nat) (ks : List AK) (xs : List (DataW H × List MemPlace)), flatFs P F l off = some ks → (l.mapM fun f => G f.type ((cs.drop f.offset).take (P.cellsOf f.type))) = some xs → cs.length = off + ks.length → LeafsOk ks (cs.drop off)
  | [], off, ks, xs, h, _, hl => by
    cases h
    rw [List.drop_eq_nil_of_le (by simp at hl; omega)]
    trivial
  | f :: l, off, ks, xs, h, hm, hl => by
    simp only [flatFs] at h
    cases ho : Nat.beq f.offset off with
    | false => rw [ho] at h; cases h
    | true =>
      rw [ho] at h
      have ho := Nat.eq_of_beq_eq_true ho
      simp only [cond_true] at h
      split at h
      · rename_i k1 hk
        cases hc : Nat.beq k1.length (P.cellsOf f.type) with
        | false => rw [hc] at h; cases h
        | true =>
          rw [hc] at h
          have hc := Nat.eq_of_beq_eq_true hc
          simp only [cond_true] at h
          split at h
          · rename_i r hr
            cases h
            simp only [List.mapM_cons, Option.bind_eq_bind, Option.bind_eq_some_iff, Option.pure_def, Option.some.injEq] at hm
            obtain ⟨y, h1, ys, h2, rfl⟩ := hm
            have a1 := hG _ _ _ _ hk h1
            have a2 := flatFs_leafs hG cs l (off + k1.length) r ys hr h2 (by rw [hl, List.length_append]; omega)
            rw [ho, ← hc] at a1
            have e : cs.drop off = (cs.drop off).take k1.length ++ cs.drop (off + k1.length) := by
              rw [← List.drop_drop, List.take_append_drop]
            rw [e]
            exact a1.append a2
          · cases h
      · cases h

theorem flatFs_mem {F : TypeId → Option (List AK)} : ∀ {l : List Field} {off : Nat} {ks : List AK}, flatFs P F l off = some ks → ∀ f ∈ l, ∃ k1, F f.type = some k1
  | [], _, _, _, f, hf => by cases hf
  | g :: l, off, ks, h, f, hf => by
    simp only [flatFs] at h
    cases ho : Nat.beq g.offset off with
    | false => rw [ho] at h; cases h
    | true =>
      rw [ho] at h
      simp only [cond_true] at h
      split at h
      · rename_i k1 hk
        cases hc : Nat.beq k1.length (P.cellsOf g.type) with
        | false => rw [hc] at h; cases h
        | true =>
          rw [hc] at h
          simp only [cond_true] at h
          split at h
          · rename_i r hr
            rcases List.mem_cons.1 hf with rfl | hf
            · exact ⟨k1, hk⟩
            · exact flatFs_mem hr f hf
          · cases h
      · cases h

theorem range_leafs {ks : List AK} {G : List Value → Option (DataW H × List MemPlace)} {c : Nat} (hc : ks.length = c) (hG : ∀ cs x, G cs = some x → LeafsOk ks cs) (cs : List Value) :
    ∀ (n s : Nat) (xs : List (DataW H × List MemPlace)), ((List.range' s n).mapM fun i => G ((cs.drop (i * c)).take c)) = some xs → cs.length = (s + n) * c → LeafsOk (List.replicate n ks).flatten (cs.drop (s * c))
  | 0, s, xs, _, hl => by
    rw [List.drop_eq_nil_of_le (by rw [hl]; simp)]
    trivial
  | n + 1, s, xs, h, hl => by
    simp only [List.range'_succ, List.mapM_cons, Option.bind_eq_bind, Option.bind_eq_some_iff, Option.pure_def, Option.some.injEq] at h
    obtain ⟨y, h1, ys, h2, rfl⟩ := h
    have a1 := hG _ _ h1
    have a2 := range_leafs hc hG cs n (s + 1) ys h2 (by rw [hl]; congr 1; omega)
    have e : cs.drop (s * c) = (cs.drop (s * c)).take c ++ cs.drop ((s + 1) * c) := by
      rw [Nat.add_mul, Nat.one_mul, ← List.drop_drop, List.take_append_drop]
    rw [e, List.replicate_succ, List.flatten_cons]
    exact a1.append a2

theorem flat_spec {w : World} {b : Nat} {sp : Nat → Bool} {hd : Bool} : ∀ (n : Nat) (t : TypeId) (ks : List AK) (fuel : Nat) (cs : List Value) (x : DataW H × List MemPlace), flatT P n t = some ks → DataW.trod enc P w b sp hd fuel t cs = some x →
    LeafsOk ks cs ∧ x.2 = [] ∧ ∀ w' b' sp' hd', DataW.trod enc P w' b' sp' hd' fuel t cs = some x
  | 0, t, ks, fuel, cs, x, h, _ => by cases h
  | n + 1, t, ks, fuel, cs, x, h, hx => by
    simp only [flatT] at h
    split at h
    · rename_i hu
      cases h
      obtain ⟨v, rfl, rfl, hw⟩ := DataW.trod_int hu hx
      refine ⟨?_, rfl, fun w' b' sp' hd' => ?_⟩
      · simp only [Lit.wf, Bool.and_eq_true, decide_eq_true_eq] at hw
        have e1 : IntKind.i64.min = -9223372036854775808 := by decide
        have e2 : IntKind.i64.max = 9223372036854775807 := by decide
        rw [e1, e2] at hw
        exact ⟨⟨v, rfl, hw.1, hw.2⟩, trivial⟩
      · cases fuel with
        | zero => simp [DataW.trod] at hx
        | succ m => simp [DataW.trod, hu, hw]
    · rename_i hu
      cases h
      cases fuel with
      | zero => simp [DataW.trod] at hx
      | succ m =>
        have key : ∃ v, cs = [.float .f64 v] ∧ x = (.lit (.float .f64 v), []) ∧ (Lit.float .f64 v).wf = true := by
          unfold DataW.trod at hx
          rw [hu] at hx
          split at hx <;> simp_all
        obtain ⟨v, rfl, rfl, hw⟩ := key
        refine ⟨?_, rfl, fun w' b' sp' hd' => ?_⟩
        · simp only [Lit.wf, decide_eq_true_eq] at hw
          exact ⟨⟨v, rfl, hw⟩, trivial⟩
        · simp [DataW.trod, hu, hw]
    · rename_i fs hu
      split at h
      · rename_i ks' hf
        cases hc : Nat.beq ks'.length (P.cellsOf t) with
        | false => rw [hc] at h; cases h
        | true =>
          rw [hc] at h
          cases h
          have hc := Nat.eq_of_beq_eq_true hc
          cases fuel with
          | zero => simp [DataW.trod] at hx
          | succ m =>
            rw [trod_struct_eq hu] at hx
            split at hx
            · rename_i hlen
              simp only [Option.map_eq_some_iff] at hx
              obtain ⟨xs, hm, rfl⟩ := hx
              refine ⟨?_, ?_, fun w' b' sp' hd' => ?_⟩
              · have := flatFs_leafs (P := P) (G := fun t cs => DataW.trod enc P w b sp hd m t cs) (fun t ks cs x h1 h2 => (flat_spec n t ks m cs x h1 h2).1) cs fs.toList 0 ks xs hf hm (by rw [hlen, hc, Nat.zero_add])
                simpa using this
              · simp only [List.flatMap_eq_nil_iff]
                intro y hy
                obtain ⟨f, hf1, hf2⟩ := mapM_back hm y hy
                have := flatFs_mem hf f hf1
                obtain ⟨k1, hk1⟩ := this
                exact (flat_spec n f.type k1 m _ y hk1 hf2).2.1
              · rw [trod_struct_eq hu, if_pos hlen]
                have hm' : (fs.toList.mapM fun f => DataW.trod enc P w' b' sp' hd' m f.type ((cs.drop f.offset).take (P.cellsOf f.type))) = some xs := by
                  refine mapM_of hm fun f hf1 y hf2 => ?_
                  have := flatFs_mem hf f hf1
                  obtain ⟨k1, hk1⟩ := this
                  exact (flat_spec n f.type k1 m _ y hk1 hf2).2.2 w' b' sp' hd'
                rw [hm']; rfl
            · cases hx
      · cases h
    · rename_i m e hu
      split at h
      · rename_i k1 hk
        cases hc : (Nat.beq k1.length (P.cellsOf e) && Nat.beq (m * k1.length) (P.cellsOf t)) with
        | false => rw [hc] at h; cases h
        | true =>
          rw [hc] at h
          cases h
          simp only [Bool.and_eq_true] at hc
          have hc1 := Nat.eq_of_beq_eq_true hc.1
          have hc2 := Nat.eq_of_beq_eq_true hc.2
          cases fuel with
          | zero => simp [DataW.trod] at hx
          | succ j =>
            rw [trod_array_eq hu] at hx
            split at hx
            · rename_i hlen
              simp only [Option.map_eq_some_iff] at hx
              obtain ⟨xs, hm, rfl⟩ := hx
              refine ⟨?_, ?_, fun w' b' sp' hd' => ?_⟩
              · rw [List.range_eq_range'] at hm
                have := range_leafs (ks := k1) (G := fun cs => DataW.trod enc P w b sp hd j e cs) hc1 (fun cs x h1 => (flat_spec n e k1 j cs x hk h1).1) cs m 0 xs hm (by rw [hlen, ← hc2, hc1, Nat.zero_add])
                simpa using this
              · simp only [List.flatMap_eq_nil_iff]
                intro y hy
                obtain ⟨i, _, hf2⟩ := mapM_back hm y hy
                exact (flat_spec n e k1 j _ y hk hf2).2.1
              · rw [trod_array_eq hu, if_pos hlen]
                have hm' : ((List.range m).mapM fun i => DataW.trod enc P w' b' sp' hd' j e ((cs.drop (i * P.cellsOf e)).take (P.cellsOf e))) = some xs :=
                  mapM_of hm fun i _ y hf2 => (flat_spec n e k1 j _ y hk hf2).2.2 w' b' sp' hd'
                rw [hm']; rfl
            · cases hx
      · cases h
    · cases h
end
section
variable {H : Type} {enc : TypeId × Value → H} {P : Program}
def isAggT (P : Program) (t : TypeId) : Bool :=
  match P.underlying t with
  | some (.struct _) => true
  | some (.array _ _) => true
  | _ => false
/-- An argument of numbers alone, in one. -/
theorem flat_agg {n : Nat} {t : TypeId} {ks : List AK} {w : World} {r : Reach} {b0 b : Nat} {sp : Nat → Bool} {hd : Bool} {v : Value} {d : DataW H} {p : List MemPlace} (hk : flatT P n t = some ks) (ha : isAggT P t = true) (hv : Value.okWide P w r b0 t v) (h : DataW.Trod enc P w b sp hd t v d p) :
    ∃ cs : List Value, v = .agg cs.toArray ∧ LeafsOk ks cs ∧ p = [] ∧ ∀ w' b' sp' hd', DataW.Trod enc P w' b' sp' hd' t v d [] := by
  have hcs : ∃ cs, v = .agg cs := by
    unfold Value.okWide at hv
    unfold isAggT at ha
    split at hv
    · obtain ⟨cs, h1, _⟩ := hv; exact ⟨cs, h1⟩
    · obtain ⟨cs, h1, _⟩ := hv; exact ⟨cs, h1⟩
    · rename_i h1 h2
      split at ha
      · rename_i fs hu; exact absurd hu (h1 fs)
      · rename_i m e hu; exact absurd hu (h2 m e)
      · cases ha
  obtain ⟨cs, rfl⟩ := hcs
  obtain ⟨fuel, hf⟩ := h
  obtain ⟨a1, a2, a3⟩ := flat_spec n t ks fuel _ _ hk hf
  simp only at a2
  exact ⟨cs.toList, rfl, a1, a2, fun w' b' sp' hd' => ⟨fuel, by rw [a3 w' b' sp' hd', a2]⟩⟩
theorem flat_int {t : TypeId} {w : World} {r : Reach} {b0 b : Nat} {sp : Nat → Bool} {hd : Bool} {v : Value} {d : DataW H} {p : List MemPlace} (hu : P.underlying t = some (.int .i64)) (hv : Value.okWide P w r b0 t v) (h : DataW.Trod enc P w b sp hd t v d p) :
    LeafsOk [.i] [v] ∧ p = [] ∧ ∀ w' b' sp' hd', DataW.Trod enc P w' b' sp' hd' t v d [] := by
  obtain ⟨m, rfl, rfl, rfl, hw⟩ := open_int hu hv h
  refine ⟨?_, rfl, fun w' b' sp' hd' => shut_int hu hw⟩
  simp only [Lit.wf, Bool.and_eq_true, decide_eq_true_eq] at hw
  have e1 : IntKind.i64.min = -9223372036854775808 := by decide
  have e2 : IntKind.i64.max = 9223372036854775807 := by decide
  rw [e1, e2] at hw
  exact ⟨⟨m, rfl, hw.1, hw.2⟩, trivial⟩
end

theorem leafs_cons {ks : List AK} {cs : List Value} (h : LeafsOk (.i :: ks) cs) : ∃ a r, cs = .int .i64 a :: r ∧ LeafsOk ks r := by
  cases cs with
  | nil => exact h.elim
  | cons c r =>
    obtain ⟨⟨n, e, _⟩, h2⟩ := h
    exact ⟨n, r, by rw [e], h2⟩
theorem leafs_nil {cs : List Value} (h : LeafsOk [] cs) : cs = [] := by
  cases cs with
  | nil => rfl
  | cons c r => exact h.elim
theorem leafs4 {cs : List Value} (h : LeafsOk [.i, .i, .i, .i] cs) : ∃ a b c d, cs = [.int .i64 a, .int .i64 b, .int .i64 c, .int .i64 d] := by
  obtain ⟨a, r1, rfl, h1⟩ := leafs_cons h
  obtain ⟨b, r2, rfl, h2⟩ := leafs_cons h1
  obtain ⟨c, r3, rfl, h3⟩ := leafs_cons h2
  obtain ⟨d, r4, rfl, h4⟩ := leafs_cons h3
  obtain rfl := leafs_nil h4
  exact ⟨a, b, c, d, rfl⟩
theorem leafs2 {cs : List Value} (h : LeafsOk [.i, .i] cs) : ∃ a b, cs = [.int .i64 a, .int .i64 b] := by
  obtain ⟨a, r1, rfl, h1⟩ := leafs_cons h
  obtain ⟨b, r2, rfl, h2⟩ := leafs_cons h1
  obtain rfl := leafs_nil h2
  exact ⟨a, b, rfl⟩
end
end Go.Ex

