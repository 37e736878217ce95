/-
  From a run of a law to its statement: arguments that are numbers alone, or numbers in structs and arrays.
-/
import Derived.Test.YtoheddhbcpjmkaaEx28
import Derived.ProofKit
namespace Go.Ex
open Go Go.RowKit Go.WideShapes Go.ChangeShapes
noncomputable section

/-! ## The row's last step -/
section
variable {H : Type} {enc : TypeId × Value → H} {P : Program}
theorem post_of_below {f : Func} {s : ChangeSpec} {apart fresh handsOn again : Bool} {W W' : World} {args : Array Value} {v : Value} {ds gs : List (DataW H)} {before pa pv : List MemPlace}
    (hW : DataW.Whole enc P f.params.toList s.vars apart W args.toList ds gs before)
    (hres : ∀ (b : Nat) (sp : Nat → Bool) (hd : Bool), DataW.TrodAll enc P W' b sp hd f.resultTypes.toList (v.resultList f.resultTypes.size) (s.fn H (ds ++ gs)).results [])
    (hargs : ∀ sp : Nat → Bool, (∀ p ∈ before, sp p.block = true) → DataW.TrodAll enc P W' 0 sp true f.params.toList args.toList (s.fn H (ds ++ gs)).args pa)
    (hvars : ∀ sp : Nat → Bool, (∀ p ∈ before, sp p.block = true) → DataW.TrodVars enc P W' sp s.vars (s.fn H (ds ++ gs)).vars pv)
    (hps : before = pa ++ pv) (hb : Below W.heap.size W W')
    (hok : ∀ (j : Nat) (t : TypeId) (r : Value), f.resultTypes[j]? = some t → (v.resultList f.resultTypes.size)[j]? = some r → Value.okWide P W' .any 0 t r) :
    s.post enc P f apart fresh handsOn again W args v W' := by
  have hlt : ∀ p ∈ before, p.block < W.heap.size := fun p hp => hW.lt p hp
  have hold : ∀ p ∈ before, (fun b => decide (b < W.heap.size)) p.block = true := fun p hp => by simpa using hlt p hp
  refine ⟨ds, gs, before, [], pa, pv, hW, hres _ _ _, hargs _ hold, hvars _ hold, World.keptBut_mono (fun p hp => ⟨hp, ?_⟩) (hb.frame (· ∈ before)), fun _ => ?_⟩
  · rw [hps, List.mem_append] at hp
    exact Or.inr hp
  · obtain ⟨_, _, _, _, _, hz, hn⟩ := hW
    refine ⟨hok, _, _, ([] ++ pa) ++ pv, ⟨[] ++ pa, pv, trodAll_append (hargs _ (fun _ _ => rfl)) (hres _ _ _), hvars _ (fun _ _ => rfl), rfl, ?_, ?_⟩, ?_⟩
    · intro b off hp
      have hin : MemPlace.cell b off ∈ before := by rw [hps]; simpa using hp
      rw [hb.frozen (hlt _ hin)]
      exact hz b off hin
    · intro ha
      have := hn ha
      rw [hps] at this
      simpa using this
    · intro p hp _
      rw [hps]
      simpa using hp
end

/-! ## Types of numbers alone -/
def flatFs (P : Program) (F : TypeId → Option (List AK)) : List Field → Nat → Option (List AK)
  | [], _ => some []
  | f :: l, off => bif Nat.beq f.offset off then (match F f.type with
    | some ks => bif Nat.beq ks.length (P.cellsOf f.type) then (match flatFs P F l (off + ks.length) with
      | some r => some (ks ++ r)
      | none => none) else none
    | none => none) else none
def flatT (P : Program) : Nat → TypeId → Option (List AK)
  | 0, _ => none
  | n + 1, t => match P.underlying t with
    | some (.int .i64) => some [.i]
    | some (.float .f64) => some [.f]
    | some (.struct fs) => match flatFs P (flatT P n) fs.toList 0 with
      | some ks => bif Nat.beq ks.length (P.cellsOf t) then some ks else none
      | none => none
    | some (.array m e) => match flatT P n e with
      | some ks => bif Nat.beq ks.length (P.cellsOf e) && Nat.beq (m * ks.length) (P.cellsOf t) then some (List.replicate m ks).flatten else none
      | none => none
    | _ => none

def LeafOk : AK → Value → Prop
  | .i, c => ∃ n, c = .int .i64 n ∧ -9223372036854775808 ≤ n ∧ n ≤ 9223372036854775807
  | .f, c => ∃ b, c = .float .f64 b ∧ b < 18446744073709551616
  | _, _ => False
def LeafsOk : List AK → List Value → Prop
  | [], [] => True
  | k :: ks, c :: cs => LeafOk k c ∧ LeafsOk ks cs
  | _, _ => False
theorem LeafsOk.append : ∀ {k1 k2 : List AK} {c1 c2 : List Value}, LeafsOk k1 c1 → LeafsOk k2 c2 → LeafsOk (k1 ++ k2) (c1 ++ c2)
  | [], _, [], _, _, h => h
  | [], _, _ :: _, _, h, _ => h.elim
  | _ :: _, _, [], _, h, _ => h.elim
  | _ :: _, _, _ :: _, _, h, h' => ⟨h.1, LeafsOk.append h.2 h'⟩
theorem LeafsOk.len : ∀ {k : List AK} {c : List Value}, LeafsOk k c → c.length = k.length
  | [], [], _ => rfl
  | [], _ :: _, h => h.elim
  | _ :: _, [], h => h.elim
  | _ :: _, _ :: _, h => by simp [LeafsOk.len h.2]

theorem mapM_some {α β : Type} {f : α → Option β} : ∀ {l : List α} {xs : List β}, l.mapM f = some xs → ∀ a ∈ l, ∃ y ∈ xs, f a = some y
  | [], xs, _, a, ha => by cases ha
  | b :: l, xs, h, a, ha => by
    simp only [List.mapM_cons, Option.bind_eq_bind, Option.bind_eq_some_iff, Option.pure_def, Option.some.injEq] at h
    obtain ⟨y, h1, ys, h2, rfl⟩ := h
    cases ha with
    | head => exact ⟨y, List.mem_cons_self .., h1⟩
    | tail _ ha =>
      obtain ⟨z, hz, hf⟩ := mapM_some h2 a ha
      exact ⟨z, List.mem_cons_of_mem _ hz, hf⟩
theorem mapM_of {α β : Type} {f g : α → Option β} : ∀ {l : List α} {xs : List β}, l.mapM f = some xs → (∀ a ∈ l, ∀ y, f a = some y → g a = some y) → l.mapM g = some xs
  | [], xs, h, _ => by simpa using h
  | b :: l, xs, h, hg => by
    simp only [List.mapM_cons, Option.bind_eq_bind, Option.bind_eq_some_iff, Option.pure_def, Option.some.injEq] at h ⊢
    obtain ⟨y, h1, ys, h2, rfl⟩ := h
    exact ⟨y, hg b (List.mem_cons_self ..) y h1, ys, mapM_of h2 (fun a ha => hg a (List.mem_cons_of_mem _ ha)), rfl⟩
theorem mapM_back {α β : Type} {f : α → Option β} : ∀ {l : List α} {xs : List β}, l.mapM f = some xs → ∀ y ∈ xs, ∃ a ∈ l, f a = some y
  | [], xs, h, y, hy => by
    simp at h; subst h; cases hy
  | b :: l, xs, h, y, hy => by
    simp only [List.mapM_cons, Option.bind_eq_bind, Option.bind_eq_some_iff, Option.pure_def, Option.some.injEq] at h
    obtain ⟨z, h1, ys, h2, rfl⟩ := h
    cases hy with
    | head => exact ⟨b, List.mem_cons_self .., h1⟩
    | tail _ hy =>
      obtain ⟨a, ha, hf⟩ := mapM_back h2 y hy
      exact ⟨a, List.mem_cons_of_mem _ ha, hf⟩

section
variable {H : Type} {enc : TypeId × Value → H} {P : Program}
theorem trod_struct_eq {w : World} {b : Nat} {sp : Nat → Bool} {hd : Bool} {n : Nat} {t : TypeId} {fs : Array Field} {cs : List Value} (ht : P.underlying t = some (.struct fs)) :
    DataW.trod enc P w b sp hd (n + 1) t cs = if cs.length = P.cellsOf t then (fs.toList.mapM fun f => DataW.trod enc P w b sp hd n f.type ((cs.drop f.offset).take (P.cellsOf f.type))).map fun xs => (.agg (xs.map (·.1)), xs.flatMap (·.2)) else none := by
  conv => lhs; unfold DataW.trod
  rw [ht]
theorem trod_array_eq {w : World} {b : Nat} {sp : Nat → Bool} {hd : Bool} {n : Nat} {t e : TypeId} {m : Nat} {cs : List Value} (ht : P.underlying t = some (.array m e)) :
    DataW.trod enc P w b sp hd (n + 1) t cs = if cs.length = P.cellsOf t then ((List.range m).mapM fun i => DataW.trod enc P w b sp hd n e ((cs.drop (i * P.cellsOf e)).take (P.cellsOf e))).map fun xs => (.agg (xs.map (·.1)), xs.flatMap (·.2)) else none := by
  conv => lhs; unfold DataW.trod
  rw [ht]

theorem flatFs_leafs {F : TypeId → Option (List AK)} {G : TypeId → List Value → Option (DataW H × List MemPlace)} (hG : ∀ t ks cs x, F t = some ks → G t cs = some x → LeafsOk ks cs) (cs : List Value) :
    ∀ (l : List Field) (off : Nat) (ks : List AK) (xs : List (DataW H × List MemPlace)), flatFs P F l off = some ks → (l.mapM fun f => G f.type ((cs.drop f.offset).take (P.cellsOf f.type))) = some xs → cs.length = off + ks.length → LeafsOk ks (cs.drop off)
  | [], off, ks, xs, h, _, hl => by
    cases h
    rw [List.drop_eq_nil_of_le (by simp at hl; omega)]
    trivial
  | f :: l, off, ks, xs, h, hm, hl => by
    simp only [flatFs] at h
    cases ho : Nat.beq f.offset off with
    | false => rw [ho] at h; cases h
    | true =>
      rw [ho] at h
      have ho := Nat.eq_of_beq_eq_true ho
      simp only [cond_true] at h
      split at h
      · rename_i k1 hk
        cases hc : Nat.beq k1.length (P.cellsOf f.type) with
        | false => rw [hc] at h; cases h
        | true =>
          rw [hc] at h
          have hc := Nat.eq_of_beq_eq_true hc
          simp only [cond_true] at h
          split at h
          · rename_i r hr
            cases h
            simp only [List.mapM_cons, Option.bind_eq_bind, Option.bind_eq_some_iff, Option.pure_def, Option.some.injEq] at hm
            obtain ⟨y, h1, ys, h2, rfl⟩ := hm
            have a1 := hG _ _ _ _ hk h1
            have a2 := flatFs_leafs hG cs l (off + k1.length) r ys hr h2 (by rw [hl, List.length_append]; omega)
            rw [ho, ← hc] at a1
            have e : cs.drop off = (cs.drop off).take k1.length ++ cs.drop (off + k1.length) := by
              rw [← List.drop_drop, List.take_append_drop]
            rw [e]
            exact a1.append a2
          · cases h
      · cases h

theorem flatFs_mem {F : TypeId → Option (List AK)} : ∀ {l : List Field} {off : Nat} {ks : List AK}, flatFs P F l off = some ks → ∀ f ∈ l, ∃ k1, F f.type = some k1
  | [], _, _, _, f, hf => by cases hf
  | g :: l, off, ks, h, f, hf => by
    simp only [flatFs] at h
    cases ho : Nat.beq g.offset off with
    | false => rw [ho] at h; cases h
    | true =>
      rw [ho] at h
      simp only [cond_true] at h
      split at h
      · rename_i k1 hk
        cases hc : Nat.beq k1.length (P.cellsOf g.type) with
        | false => rw [hc] at h; cases h
        | true =>
          rw [hc] at h
          simp only [cond_true] at h
          split at h
          · rename_i r hr
            rcases List.mem_cons.1 hf with rfl | hf
            · exact ⟨k1, hk⟩
            · exact flatFs_mem hr f hf
          · cases h
      · cases h

theorem range_leafs {ks : List AK} {G : List Value → Option (DataW H × List MemPlace)} {c : Nat} (hc : ks.length = c) (hG : ∀ cs x, G cs = some x → LeafsOk ks cs) (cs : List Value) :
    ∀ (n s : Nat) (xs : List (DataW H × List MemPlace)), ((List.range' s n).mapM fun i => G ((cs.drop (i * c)).take c)) = some xs → cs.length = (s + n) * c → LeafsOk (List.replicate n ks).flatten (cs.drop (s * c))
  | 0, s, xs, _, hl => by
    rw [List.drop_eq_nil_of_le (by rw [hl]; simp)]
    trivial
  | n + 1, s, xs, h, hl => by
    simp only [List.range'_succ, List.mapM_cons, Option.bind_eq_bind, Option.bind_eq_some_iff, Option.pure_def, Option.some.injEq] at h
    obtain ⟨y, h1, ys, h2, rfl⟩ := h
    have a1 := hG _ _ h1
    have a2 := range_leafs hc hG cs n (s + 1) ys h2 (by rw [hl]; congr 1; omega)
    have e : cs.drop (s * c) = (cs.drop (s * c)).take c ++ cs.drop ((s + 1) * c) := by
      rw [Nat.add_mul, Nat.one_mul, ← List.drop_drop, List.take_append_drop]
    rw [e, List.replicate_succ, List.flatten_cons]
    exact a1.append a2

theorem flat_spec {w : World} {b : Nat} {sp : Nat → Bool} {hd : Bool} : ∀ (n : Nat) (t : TypeId) (ks : List AK) (fuel : Nat) (cs : List Value) (x : DataW H × List MemPlace), flatT P n t = some ks → DataW.trod enc P w b sp hd fuel t cs = some x →
    LeafsOk ks cs ∧ x.2 = [] ∧ ∀ w' b' sp' hd', DataW.trod enc P w' b' sp' hd' fuel t cs = some x
  | 0, t, ks, fuel, cs, x, h, _ => by cases h
  | n + 1, t, ks, fuel, cs, x, h, hx => by
    simp only [flatT] at h
    split at h
    · rename_i hu
      cases h
      obtain ⟨v, rfl, rfl, hw⟩ := DataW.trod_int hu hx
      refine ⟨?_, rfl, fun w' b' sp' hd' => ?_⟩
      · simp only [Lit.wf, Bool.and_eq_true, decide_eq_true_eq] at hw
        have e1 : IntKind.i64.min = -9223372036854775808 := by decide
        have e2 : IntKind.i64.max = 9223372036854775807 := by decide
        rw [e1, e2] at hw
        exact ⟨⟨v, rfl, hw.1, hw.2⟩, trivial⟩
      · cases fuel with
        | zero => simp [DataW.trod] at hx
        | succ m => simp [DataW.trod, hu, hw]
    · rename_i hu
      cases h
      cases fuel with
      | zero => simp [DataW.trod] at hx
      | succ m =>
        have key : ∃ v, cs = [.float .f64 v] ∧ x = (.lit (.float .f64 v), []) ∧ (Lit.float .f64 v).wf = true := by
          unfold DataW.trod at hx
          rw [hu] at hx
          split at hx <;> simp_all
        obtain ⟨v, rfl, rfl, hw⟩ := key
        refine ⟨?_, rfl, fun w' b' sp' hd' => ?_⟩
        · simp only [Lit.wf, decide_eq_true_eq] at hw
          exact ⟨⟨v, rfl, hw⟩, trivial⟩
        · simp [DataW.trod, hu, hw]
    · rename_i fs hu
      split at h
      · rename_i ks' hf
        cases hc : Nat.beq ks'.length (P.cellsOf t) with
        | false => rw [hc] at h; cases h
        | true =>
          rw [hc] at h
          cases h
          have hc := Nat.eq_of_beq_eq_true hc
          cases fuel with
          | zero => simp [DataW.trod] at hx
          | succ m =>
            rw [trod_struct_eq hu] at hx
            split at hx
            · rename_i hlen
              simp only [Option.map_eq_some_iff] at hx
              obtain ⟨xs, hm, rfl⟩ := hx
              refine ⟨?_, ?_, fun w' b' sp' hd' => ?_⟩
              · have := flatFs_leafs (P := P) (G := fun t cs => DataW.trod enc P w b sp hd m t cs) (fun t ks cs x h1 h2 => (flat_spec n t ks m cs x h1 h2).1) cs fs.toList 0 ks xs hf hm (by rw [hlen, hc, Nat.zero_add])
                simpa using this
              · simp only [List.flatMap_eq_nil_iff]
                intro y hy
                obtain ⟨f, hf1, hf2⟩ := mapM_back hm y hy
                have := flatFs_mem hf f hf1
                obtain ⟨k1, hk1⟩ := this
                exact (flat_spec n f.type k1 m _ y hk1 hf2).2.1
              · rw [trod_struct_eq hu, if_pos hlen]
                have hm' : (fs.toList.mapM fun f => DataW.trod enc P w' b' sp' hd' m f.type ((cs.drop f.offset).take (P.cellsOf f.type))) = some xs := by
                  refine mapM_of hm fun f hf1 y hf2 => ?_
                  have := flatFs_mem hf f hf1
                  obtain ⟨k1, hk1⟩ := this
                  exact (flat_spec n f.type k1 m _ y hk1 hf2).2.2 w' b' sp' hd'
                rw [hm']; rfl
            · cases hx
      · cases h
    · rename_i m e hu
      split at h
      · rename_i k1 hk
        cases hc : (Nat.beq k1.length (P.cellsOf e) && Nat.beq (m * k1.length) (P.cellsOf t)) with
        | false => rw [hc] at h; cases h
        | true =>
          rw [hc] at h
          cases h
          simp only [Bool.and_eq_true] at hc
          have hc1 := Nat.eq_of_beq_eq_true hc.1
          have hc2 := Nat.eq_of_beq_eq_true hc.2
          cases fuel with
          | zero => simp [DataW.trod] at hx
          | succ j =>
            rw [trod_array_eq hu] at hx
            split at hx
            · rename_i hlen
              simp only [Option.map_eq_some_iff] at hx
              obtain ⟨xs, hm, rfl⟩ := hx
              refine ⟨?_, ?_, fun w' b' sp' hd' => ?_⟩
              · rw [List.range_eq_range'] at hm
                have := range_leafs (ks := k1) (G := fun cs => DataW.trod enc P w b sp hd j e cs) hc1 (fun cs x h1 => (flat_spec n e k1 j cs x hk h1).1) cs m 0 xs hm (by rw [hlen, ← hc2, hc1, Nat.zero_add])
                simpa using this
              · simp only [List.flatMap_eq_nil_iff]
                intro y hy
                obtain ⟨i, _, hf2⟩ := mapM_back hm y hy
                exact (flat_spec n e k1 j _ y hk hf2).2.1
              · rw [trod_array_eq hu, if_pos hlen]
                have hm' : ((List.range m).mapM fun i => DataW.trod enc P w' b' sp' hd' j e ((cs.drop (i * P.cellsOf e)).take (P.cellsOf e))) = some xs :=
                  mapM_of hm fun i _ y hf2 => (flat_spec n e k1 j _ y hk hf2).2.2 w' b' sp' hd'
                rw [hm']; rfl
            · cases hx
      · cases h
    · cases h
end

/-! ## The arguments of a law -/
def intsOf : List Value → List Int
  | [] => []
  | .int _ n :: l => n :: intsOf l
  | _ :: l => intsOf l
def fltsOf : List Value → List Nat
  | [] => []
  | .float _ b :: l => b :: fltsOf l
  | _ :: l => fltsOf l
theorem intsOf_append : ∀ a b : List Value, intsOf (a ++ b) = intsOf a ++ intsOf b
  | [], _ => rfl
  | c :: a, b => by cases c <;> simp [intsOf, intsOf_append a b]
theorem fltsOf_append : ∀ a b : List Value, fltsOf (a ++ b) = fltsOf a ++ fltsOf b
  | [], _ => rfl
  | c :: a, b => by cases c <;> simp [fltsOf, fltsOf_append a b]

theorem leafs_den {η : Env} {E : Emb} : ∀ {ks : List AK} {cs : List Value} (v f : Nat), LeafsOk ks cs → (∀ j a, (intsOf cs)[j]? = some a → wr (η.i (v + j)) = a) → (∀ j a, (fltsOf cs)[j]? = some a → η.f (f + j) = a) →
    denL η E (canL v f ks) = some cs ∧ (intsOf cs).length = nIs ks ∧ (fltsOf cs).length = nFs ks
  | [], [], v, f, _, _, _ => ⟨rfl, rfl, rfl⟩
  | [], _ :: _, v, f, h, _, _ => h.elim
  | _ :: _, [], v, f, h, _, _ => h.elim
  | k :: ks, c :: cs, v, f, h, hi, hf => by
    cases k with
    | i =>
      obtain ⟨n, rfl, _, _⟩ := h.1
      obtain ⟨a1, a2, a3⟩ := leafs_den (η := η) (E := E) (v + 1) f h.2 (fun j a ha => by have := hi (j + 1) a (by simpa [intsOf] using ha); rwa [show v + (j + 1) = v + 1 + j by omega] at this) (fun j a ha => hf j a (by simpa [fltsOf] using ha))
      have h0 := hi 0 n rfl
      simp only [Nat.add_zero] at h0
      exact ⟨by simp only [canL, canK, denL, Sc.den, Ix.den, evP_pvar, h0, nI1, nF1, Nat.add_zero, a1], by simp [intsOf, nIs, nI1, a2]; omega, by simp [fltsOf, nFs, nF1, a3]⟩
    | f =>
      obtain ⟨n, rfl, _⟩ := h.1
      obtain ⟨a1, a2, a3⟩ := leafs_den (η := η) (E := E) v (f + 1) h.2 (fun j a ha => hi j a (by simpa [intsOf] using ha)) (fun j a ha => by have := hf (j + 1) a (by simpa [fltsOf] using ha); rwa [show f + (j + 1) = f + 1 + j by omega] at this)
      have h0 := hf 0 n rfl
      simp only [Nat.add_zero] at h0
      exact ⟨by simp only [canL, canK, denL, Sc.den, Fx.den, h0, nI1, nF1, Nat.add_zero, a1], by simp [intsOf, nIs, nI1, a2], by simp [fltsOf, nFs, nF1, a3]; omega⟩
    | k n => exact h.1.elim
    | c => exact h.1.elim

/-- Arguments, each by its cells. -/
def argsV : List (Bool × List Value) → List Value
  | [] => []
  | (true, cs) :: l => .agg cs.toArray :: argsV l
  | (false, [c]) :: l => c :: argsV l
  | (false, _) :: l => undef :: argsV l
def cellsV : List (Bool × List Value) → List Value
  | [] => []
  | (_, cs) :: l => cs ++ cellsV l
def ArgsOk : Shq → List (Bool × List Value) → Prop
  | [], [] => True
  | (b, ks) :: s, (b', cs) :: l => b = b' ∧ LeafsOk ks cs ∧ (b = false → ks.length = 1) ∧ ArgsOk s l
  | _, _ => False
theorem args_den {η : Env} {E : Emb} : ∀ {sh : Shq} {l : List (Bool × List Value)} (v f : Nat), ArgsOk sh l → (∀ j a, (intsOf (cellsV l))[j]? = some a → wr (η.i (v + j)) = a) → (∀ j a, (fltsOf (cellsV l))[j]? = some a → η.f (f + j) = a) →
    denArgs η E (canA v f sh) = some (argsV l)
  | [], [], v, f, _, _, _ => rfl
  | [], _ :: _, v, f, h, _, _ => h.elim
  | _ :: _, [], v, f, h, _, _ => h.elim
  | (b, ks) :: s, (b', cs) :: l, v, f, h, hi, hf => by
    obtain ⟨rfl, h1, h2, h3⟩ := h
    have hi1 : ∀ j a, (intsOf cs)[j]? = some a → wr (η.i (v + j)) = a := fun j a ha => hi j a (by
      simp only [cellsV, intsOf_append]
      rw [List.getElem?_append_left (List.getElem?_eq_some_iff.1 ha).1]; exact ha)
    have hf1 : ∀ j a, (fltsOf cs)[j]? = some a → η.f (f + j) = a := fun j a ha => hf j a (by
      simp only [cellsV, fltsOf_append]
      rw [List.getElem?_append_left (List.getElem?_eq_some_iff.1 ha).1]; exact ha)
    obtain ⟨a1, a2, a3⟩ := leafs_den (η := η) (E := E) v f h1 hi1 hf1
    have ih := args_den (η := η) (E := E) (v + nIs ks) (f + nFs ks) h3 (fun j a ha => by
      have := hi (nIs ks + j) a (by
        simp only [cellsV, intsOf_append]
        rw [List.getElem?_append_right (by omega), a2, Nat.add_sub_cancel_left]; exact ha)
      rwa [← Nat.add_assoc] at this) (fun j a ha => by
      have := hf (nFs ks + j) a (by
        simp only [cellsV, fltsOf_append]
        rw [List.getElem?_append_right (by omega), a3, Nat.add_sub_cancel_left]; exact ha)
      rwa [← Nat.add_assoc] at this)
    cases b with
    | true => simp only [canA, mkArg, denArgs, Sv.den, a1, Option.map_some, ih, argsV]
    | false =>
      have hk := h2 rfl
      have hc := h1.len
      match ks, cs, hk, hc with
      | [k], [c], _, _ =>
        simp only [canL, denL] at a1
        simp only [canA, mkArg, canL, denArgs, Sv.den, argsV]
        cases hd : (canK v f k).den η E with
        | none => rw [hd] at a1; cases a1
        | some y =>
          rw [hd] at a1
          simp only [Option.some.injEq, List.cons.injEq, and_true] at a1
          subst a1
          simp only [ih]

/-- The values of a law's variables: its arguments; others as is asked. -/
def lawEnv (l : List (Bool × List Value)) (iv : Nat → Int) (uu : Nat → List Int → Bool) : Env :=
  mkEnv (fun k => (fltsOf (cellsV l))[k]?.getD 0) (fun v => (intsOf (cellsV l))[v]?.getD (iv v)) uu

theorem leafs_rng : ∀ {ks : List AK} {cs : List Value}, LeafsOk ks cs → (∀ n ∈ intsOf cs, -9223372036854775808 ≤ n ∧ n ≤ 9223372036854775807) ∧ (∀ b ∈ fltsOf cs, b < 18446744073709551616)
  | [], [], _ => ⟨fun _ h => (by cases h), fun _ h => (by cases h)⟩
  | [], _ :: _, h => h.elim
  | _ :: _, [], h => h.elim
  | k :: ks, c :: cs, h => by
    obtain ⟨a, b⟩ := leafs_rng h.2
    cases k with
    | i =>
      obtain ⟨n, rfl, h1, h2⟩ := h.1
      refine ⟨fun m hm => ?_, fun m hm => b m (by simpa [fltsOf] using hm)⟩
      simp only [intsOf, List.mem_cons] at hm
      rcases hm with rfl | hm
      · exact ⟨h1, h2⟩
      · exact a m hm
    | f =>
      obtain ⟨n, rfl, h1⟩ := h.1
      refine ⟨fun m hm => a m (by simpa [intsOf] using hm), fun m hm => ?_⟩
      simp only [fltsOf, List.mem_cons] at hm
      rcases hm with rfl | hm
      · exact h1
      · exact b m hm
    | k n => exact h.1.elim
    | c => exact h.1.elim
theorem args_rng : ∀ {sh : Shq} {l : List (Bool × List Value)}, ArgsOk sh l → (∀ n ∈ intsOf (cellsV l), -9223372036854775808 ≤ n ∧ n ≤ 9223372036854775807) ∧ (∀ b ∈ fltsOf (cellsV l), b < 18446744073709551616)
  | [], [], _ => ⟨fun _ h => (by cases h), fun _ h => (by cases h)⟩
  | [], _ :: _, h => h.elim
  | _ :: _, [], h => h.elim
  | (b, ks) :: s, (b', cs) :: l, h => by
    obtain ⟨a1, a2⟩ := leafs_rng h.2.1
    obtain ⟨b1, b2⟩ := args_rng h.2.2.2
    refine ⟨fun n hn => ?_, fun n hn => ?_⟩
    · simp only [cellsV, intsOf_append, List.mem_append] at hn
      rcases hn with hn | hn
      · exact a1 n hn
      · exact b1 n hn
    · simp only [cellsV, fltsOf_append, List.mem_append] at hn
      rcases hn with hn | hn
      · exact a2 n hn
      · exact b2 n hn

theorem lawEnv_f (l : List (Bool × List Value)) (iv : Nat → Int) (uu : Nat → List Int → Bool) (k : Nat) : (lawEnv l iv uu).f k = (fltsOf (cellsV l))[k]?.getD 0 := rfl
theorem lawEnv_i (l : List (Bool × List Value)) (iv : Nat → Int) (uu : Nat → List Int → Bool) {v : Nat} (hv : v < 10000) : (lawEnv l iv uu).i v = wr ((intsOf (cellsV l))[v]?.getD (iv v)) := by
  have hv : ¬ 10000 ≤ v := by omega
  exact if_neg hv
theorem lawEnv_good {sh : Shq} {l : List (Bool × List Value)} (h : ArgsOk sh l) (iv : Nat → Int) (uu : Nat → List Int → Bool) : GoodF (lawEnv l iv uu) := by
  refine mkEnv_good (fun k => ?_) _ _
  cases hk : (fltsOf (cellsV l))[k]? with
  | none => simp only [Option.getD_none]; omega
  | some b => simp only [Option.getD_some]; exact (args_rng h).2 b (List.mem_of_getElem? hk)

theorem lawEnv_den {sh : Shq} {l : List (Bool × List Value)} (h : ArgsOk sh l) (hn : (intsOf (cellsV l)).length ≤ 10000) (iv : Nat → Int) (uu : Nat → List Int → Bool) {E : Emb} : denArgs (lawEnv l iv uu) E (canA 0 0 sh) = some (argsV l) := by
  refine args_den 0 0 h (fun j a ha => ?_) (fun j a ha => ?_)
  · have hj := (List.getElem?_eq_some_iff.1 ha).1
    rw [Nat.zero_add, lawEnv_i _ _ _ (by omega), ha, Option.getD_some, wr_wr]
    exact wr_in ((args_rng h).1 a (List.mem_of_getElem? ha))
  · rw [Nat.zero_add, lawEnv_f, ha, Option.getD_some]

theorem args_len : ∀ {sh : Shq} {l : List (Bool × List Value)}, ArgsOk sh l → (intsOf (cellsV l)).length = nIq sh
  | [], [], _ => rfl
  | [], _ :: _, h => h.elim
  | _ :: _, [], h => h.elim
  | (b, ks) :: s, (b', cs) :: l, h => by
    have a := (leafs_den (η := ⟨fun v => (intsOf cs)[v]?.getD 0, fun v => (fltsOf cs)[v]?.getD 0, fun _ _ => false⟩) (E := E0) 0 0 h.2.1 (fun j a ha => by
      simp only [Nat.zero_add, ha, Option.getD_some]
      exact wr_in ((leafs_rng h.2.1).1 a (List.mem_of_getElem? ha))) (fun j a ha => by simp only [Nat.zero_add, ha, Option.getD_some])).2.1
    simp only [cellsV, intsOf_append, List.length_append, a, args_len h.2.2.2, nIq]

section
variable {H : Type} {enc : TypeId × Value → H} {P : Program}
def isAggT (P : Program) (t : TypeId) : Bool :=
  match P.underlying t with
  | some (.struct _) => true
  | some (.array _ _) => true
  | _ => false
/-- An argument of numbers alone, in one. -/
theorem flat_agg {n : Nat} {t : TypeId} {ks : List AK} {w : World} {r : Reach} {b0 b : Nat} {sp : Nat → Bool} {hd : Bool} {v : Value} {d : DataW H} {p : List MemPlace} (hk : flatT P n t = some ks) (ha : isAggT P t = true) (hv : Value.okWide P w r b0 t v) (h : DataW.Trod enc P w b sp hd t v d p) :
    ∃ cs : List Value, v = .agg cs.toArray ∧ LeafsOk ks cs ∧ p = [] ∧ ∀ w' b' sp' hd', DataW.Trod enc P w' b' sp' hd' t v d [] := by
  have hcs : ∃ cs, v = .agg cs := by
    unfold Value.okWide at hv
    unfold isAggT at ha
    split at hv
    · obtain ⟨cs, h1, _⟩ := hv; exact ⟨cs, h1⟩
    · obtain ⟨cs, h1, _⟩ := hv; exact ⟨cs, h1⟩
    · rename_i h1 h2
      split at ha
      · rename_i fs hu; exact absurd hu (h1 fs)
      · rename_i m e hu; exact absurd hu (h2 m e)
      · cases ha
  obtain ⟨cs, rfl⟩ := hcs
  obtain ⟨fuel, hf⟩ := h
  obtain ⟨a1, a2, a3⟩ := flat_spec n t ks fuel _ _ hk hf
  simp only at a2
  exact ⟨cs.toList, rfl, a1, a2, fun w' b' sp' hd' => ⟨fuel, by rw [a3 w' b' sp' hd', a2]⟩⟩
theorem flat_int {t : TypeId} {w : World} {r : Reach} {b0 b : Nat} {sp : Nat → Bool} {hd : Bool} {v : Value} {d : DataW H} {p : List MemPlace} (hu : P.underlying t = some (.int .i64)) (hv : Value.okWide P w r b0 t v) (h : DataW.Trod enc P w b sp hd t v d p) :
    LeafsOk [.i] [v] ∧ p = [] ∧ ∀ w' b' sp' hd', DataW.Trod enc P w' b' sp' hd' t v d [] := by
  obtain ⟨m, rfl, rfl, rfl, hw⟩ := open_int hu hv h
  refine ⟨?_, rfl, fun w' b' sp' hd' => shut_int hu hw⟩
  simp only [Lit.wf, Bool.and_eq_true, decide_eq_true_eq] at hw
  have e1 : IntKind.i64.min = -9223372036854775808 := by decide
  have e2 : IntKind.i64.max = 9223372036854775807 := by decide
  rw [e1, e2] at hw
  exact ⟨⟨m, rfl, hw.1, hw.2⟩, trivial⟩
theorem shut_true {t : TypeId} {w : World} {b : Nat} {sp : Nat → Bool} {hd : Bool} (hu : P.underlying t = some .bool) : DataW.Trod enc P w b sp hd t (.bool true) (.lit (.bool true)) [] :=
  ⟨1, by simp [DataW.trod, Value.cells, hu]⟩
theorem okWide_true {t : TypeId} {w : World} (hu : P.underlying t = some .bool) : Value.okWide P w .any 0 t (.bool true) := by
  simp [Value.okWide, hu, Cell.okWide, Cell.ok]
end

/-- A law that the executor finds true at every leaf. -/
def lawTrue (r : Sv × St) : Bool := svEq r.1 (.one (.bool (.lit true)))
theorem law_any {P : Program} {C : Cx} (hC : ∀ η, GoodF η → C.Ok P η) {n : Nat} {f : FuncId} {fi : FI} {sh : Shq} (hf : FI.Ok P f fi)
    (h : ((callE C (drawX C) n fi (canA 0 0 sh) (stP [])).all lawTrue) = true) (hsz : Nat.ble (nIq sh) 10000 = true) {l : List (Bool × List Value)} (hl : ArgsOk sh l) (w : World) :
    Calls P f (argsV l).toArray w fun e w' => e = .returned (.bool true) ∧ Below w.heap.size w w' := by
  have hn : (intsOf (cellsV l)).length ≤ 10000 := by rw [args_len hl]; exact Nat.le_of_ble_eq_true hsz
  have hg := lawEnv_good hl (fun _ => 0) (fun _ _ => false)
  obtain ⟨x, hx, hxr⟩ := Tree.all_at (η := lawEnv l (fun _ => 0) (fun _ _ => false)) h
  have hxr := svEq_iff hxr
  obtain ⟨v, e1, _, e3⟩ := run_sumP (hC _ hg) hf (fun _ h => by cases h) hx (by rw [hxr]; rfl) w (lawEnv_den hl hn _ _)
  rw [hxr] at e1
  cases e1
  exact e3

end
end Go.Ex
