/-
  What a statement's arguments are, as data of the executor; the row's last step.
-/
import Derived.Test.YtdpabnfcfakjeaaLwFb
import Derived.ProofKit
import Derived.ChangeArms
import Derived.DataReads

namespace Go.Ex
open Go Go.RowKit Go.WideShapes Go.ChangeShapes Go.Proofs
noncomputable section

def cellZ (w : World) : Nat → Nat → Option Value := fun B o => w.cell? ⟨B, o, none⟩
def LeafR (w : World) (s : Sh) (v : Value) : Prop := ∃ d, s.ex d = d ∧ Reads (cellZ w) d v
def LeafsR (w : World) : List Sh → List Value → Prop
  | [], [] => True
  | s :: ss, v :: vs => LeafR w s v ∧ LeafsR w ss vs
  | _, _ => False
theorem LeafsR.len {w : World} : ∀ {ss : List Sh} {vs : List Value}, LeafsR w ss vs → vs.length = ss.length
  | [], [], _ => rfl
  | [], _ :: _, h => h.elim
  | _ :: _, [], h => h.elim
  | _ :: _, _ :: _, h => by simp [LeafsR.len h.2]
theorem LeafsR.at {w : World} : ∀ {ss : List Sh} {vs : List Value} {j : Nat}, LeafsR w ss vs → j < ss.length → ∃ u, vs[j]? = some u ∧ LeafR w (shAt ss j) u
  | [], _, j, _, hj => by simp at hj
  | _ :: _, [], _, h, _ => h.elim
  | s :: ss, v :: vs, 0, h, _ => ⟨v, rfl, h.1⟩
  | s :: ss, v :: vs, j + 1, h, hj => by
    obtain ⟨u, h1, h2⟩ := LeafsR.at h.2 (show j < ss.length by simpa using hj)
    exact ⟨u, by simpa using h1, h2⟩
/-- The shapes of a type's cells. -/
def shT (P : Program) : Nat → TypeId → Option (List Sh)
  | 0, _ => none
  | n + 1, t => match P.underlying t with
    | some .bool => some [.bool]
    | some (.int k) => some [.int k]
    | some .string => some [.str]
    | some (.slice e) => match shT P n e with
      | some ss => match Nat.beq ss.length (P.cellsOf e) && Nat.blt 0 ss.length with
        | true => some [.list ss]
        | false => none
      | none => none
    | _ => none
section
variable {H : Type} {enc : TypeId × Value → H} {P : Program}
theorem trod_leafs {w : World} {sp : Nat → Bool} {hd : Bool} : ∀ (n : Nat) (t : TypeId) (ss : List Sh) (fuel : Nat) (cs : List Value) (x : DataW H × List MemPlace), shT P n t = some ss → DataW.trod enc P w 0 sp hd fuel t cs = some x → LeafsR w ss cs
  | 0, t, ss, fuel, cs, x, h, _ => by cases h
  | n + 1, t, ss, fuel, cs, x, h, hx => by
    simp only [shT] at h
    split at h <;> first | (cases h; done) | skip
    · rename_i hu
      cases h
      obtain ⟨b, rfl, _⟩ := DataW.trod_bool hu hx
      exact ⟨⟨.bool b, rfl, rfl⟩, trivial⟩
    · rename_i k hu
      cases h
      obtain ⟨m, rfl, _⟩ := DataW.trod_int hu hx
      exact ⟨⟨.int k m, rfl, rfl⟩, trivial⟩
    · rename_i hu
      cases h
      obtain ⟨s, rfl, _⟩ := DataW.trod_string hu hx
      exact ⟨⟨.str s.data.toList, rfl, by simp [Reads]⟩, trivial⟩
    · rename_i e hu
      split at h <;> first | (cases h; done) | skip
      rename_i ss' hs
      split at h <;> first | (cases h; done) | skip
      rename_i hc
      cases h
      simp only [Bool.and_eq_true] at hc
      have hlen := Nat.eq_of_beq_eq_true hc.1
      have hpos := Nat.le_of_ble_eq_true hc.2
      rcases DataW.trod_slice hu hx with ⟨rfl, _⟩ | ⟨a, len, cap, elems, rest, m, _, rfl, _, _, hl, hm, hel, hget, _⟩
      · exact ⟨⟨.list ss' 0 (fun _ _ => .bool false), rfl, none, 0, rfl, Nat.le_refl _, by decide, .inl rfl⟩, trivial⟩
      · have hrow : ∀ i, i < len → ∃ r, w.cells? 0 (a.add (i * P.cellsOf e)) (P.cellsOf e) = some r ∧ LeafsR w ss' r := fun i hi => by
          have h1 := hget i hi
          have hlt : i < elems.length := by omega
          rw [List.getElem?_eq_getElem hlt, Option.bind_eq_some_iff] at h1
          obtain ⟨r, h2, h3⟩ := h1
          exact ⟨r, h2, trod_leafs n e ss' m r _ hs h3⟩
        refine ⟨?_, trivial⟩
        rcases Nat.eq_zero_or_pos len with rfl | h0
        · exact ⟨.list ss' 0 (fun _ _ => .bool false), rfl, some a, cap, rfl, hl, hm, .inl rfl⟩
        · obtain ⟨B, o, spot⟩ := a
          have hsp : spot = none := by
            obtain ⟨r, h1, h2⟩ := hrow 0 h0
            obtain ⟨_, h3, h4⟩ := World.cells?_some h1
            have h5 := h4 0 (by omega)
            obtain ⟨u, h6, _⟩ := LeafsR.at h2 hpos
            rw [h6] at h5
            unfold World.cell? at h5
            split at h5
            · split at h5
              · cases h5
              · rename_i hns
                cases spot with
                | none => rfl
                | some s => exact absurd (by simp [Addr.add]) hns
            · cases h5
          subst hsp
          have key : ∀ i j, ∃ d, i < len → j < ss'.length → (shAt ss' j).ex d = d ∧ ∃ u, cellZ w B (o + (i * ss'.length + j)) = some u ∧ Reads (cellZ w) d u := fun i j => by
            by_cases hi : i < len
            · by_cases hj : j < ss'.length
              · obtain ⟨r, h1, h2⟩ := hrow i hi
                obtain ⟨_, h3, h4⟩ := World.cells?_some h1
                obtain ⟨u, h5, d, h6, h7⟩ := LeafsR.at h2 hj
                have h8 := h4 j (by omega)
                rw [h5, addr_add, addr_add] at h8
                refine ⟨d, fun _ _ => ⟨h6, u, ?_, h7⟩⟩
                show w.cell? ⟨B, o + (i * ss'.length + j), none⟩ = some u
                rw [hlen, ← Nat.add_assoc]
                exact h8
              · exact ⟨.bool false, fun _ h => absurd h hj⟩
            · exact ⟨.bool false, fun h => absurd h hi⟩
          refine ⟨.list ss' len (fun i j => (key i j).choose), rfl, some ⟨B, o, none⟩, cap, rfl, hl, hm, .inr ⟨B, o, rfl, fun i hi j hj => ?_⟩⟩
          obtain ⟨k1, u, k2, k3⟩ := (key i j).choose_spec hi hj
          exact ⟨k1, u, k2, k3⟩
theorem post_of_below {f : Func} {s : ChangeSpec} {apart fresh handsOn again : Bool} {W W' : World} {args : Array Value} {v : Value} {ds gs : List (DataW H)} {before pa pv : List MemPlace}
    (hW : DataW.Whole enc P f.params.toList s.vars apart W args.toList ds gs before)
    (hres : ∀ (b : Nat) (sp : Nat → Bool) (hd : Bool), DataW.TrodAll enc P W' b sp hd f.resultTypes.toList (v.resultList f.resultTypes.size) (s.fn H (ds ++ gs)).results [])
    (hargs : ∀ sp : Nat → Bool, (∀ p ∈ before, sp p.block = true) → DataW.TrodAll enc P W' 0 sp true f.params.toList args.toList (s.fn H (ds ++ gs)).args pa)
    (hvars : ∀ sp : Nat → Bool, (∀ p ∈ before, sp p.block = true) → DataW.TrodVars enc P W' sp s.vars (s.fn H (ds ++ gs)).vars pv)
    (hps : before = pa ++ pv) (hb : Below W.heap.size W W')
    (hok : ∀ (j : Nat) (t : TypeId) (r : Value), f.resultTypes[j]? = some t → (v.resultList f.resultTypes.size)[j]? = some r → Value.okWide P W' .any 0 t r) :
    s.post enc P f apart fresh handsOn again W args v W' := by
  have hlt : ∀ p ∈ before, p.block < W.heap.size := fun p hp => hW.lt p hp
  have hold : ∀ p ∈ before, (fun b => decide (b < W.heap.size)) p.block = true := fun p hp => by simpa using hlt p hp
  refine ⟨ds, gs, before, [], pa, pv, hW, hres _ _ _, hargs _ hold, hvars _ hold, World.keptBut_mono (fun p hp => ⟨hp, ?_⟩) (hb.frame (· ∈ before)), fun _ => ?_⟩
  · rw [hps, List.mem_append] at hp
    exact Or.inr hp
  · obtain ⟨_, _, _, _, _, hz, hn⟩ := hW
    refine ⟨hok, _, _, ([] ++ pa) ++ pv, ⟨[] ++ pa, pv, trodAll_append (hargs _ (fun _ _ => rfl)) (hres _ _ _), hvars _ (fun _ _ => rfl), rfl, ?_, ?_⟩, ?_⟩
    · intro b off hp
      have hin : MemPlace.cell b off ∈ before := by rw [hps]; simpa using hp
      rw [hb.frozen (hlt _ hin)]
      exact hz b off hin
    · intro ha
      have := hn ha
      rw [hps] at this
      simpa using this
    · intro p hp _
      rw [hps]
      simpa using hp
theorem shut_trueR {t : TypeId} {w : World} {b : Nat} {sp : Nat → Bool} {hd : Bool} (hu : P.underlying t = some .bool) : DataW.Trod enc P w b sp hd t (.bool true) (.lit (.bool true)) [] :=
  ⟨1, by simp [DataW.trod, Value.cells, hu]⟩
theorem okWide_trueR {t : TypeId} {w : World} (hu : P.underlying t = some .bool) : Value.okWide P w .any 0 t (.bool true) := by
  simp [Value.okWide, hu, Cell.okWide, Cell.ok]
/-- An argument that is a slice. -/
theorem slice_leaf {n : Nat} {t e : TypeId} {s : Sh} {w : World} {r : Reach} {b0 : Nat} {sp : Nat → Bool} {hd : Bool} {v : Value} {d : DataW H} {p : List MemPlace} (ht : P.underlying t = some (.slice e)) (hk : shT P n t = some [s])
    (hv : Value.okWide P w r b0 t v) (h : DataW.Trod enc P w 0 sp hd t v d p) : LeafR w s v := by
  obtain ⟨a, len, cap, rfl⟩ := okWide_slice ht hv
  obtain ⟨fuel, hf⟩ := h
  exact (trod_leafs n t [s] fuel _ _ hk hf).1
end
/-- The memory that came in, and the arguments' cells. -/
def memA (w : World) (vs : List Value) : Emb := ⟨fun _ => none, fun k j => if k = 0 then vs[j]? else none, cellZ w, fun _ => none, ⟨[], fun _ _ => none⟩⟩
theorem memA_zw (w : World) (vs : List Value) : ZW (memA w vs) w := fun _ _ _ h => h
theorem fz_memA {η : Env} {w : World} {vs : List Value} {j : Nat} {d : FD} {v : Value} (hv : vs[j]? = some v) (hr : Reads (cellZ w) d v) : (Sc.fz (.root 0 j) d).den η (memA w vs) = some v :=
  fzDen_some.2 ⟨by simp [Ref.val, memA, hv], hr⟩

end
end Go.Ex

