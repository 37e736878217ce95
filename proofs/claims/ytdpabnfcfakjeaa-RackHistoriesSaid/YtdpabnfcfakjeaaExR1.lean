/-
  The executor's operations on plain data that are terms: loads, indexes, slices of frozen rows and of rows of its own.
-/
import Derived.Test.YtdpabnfcfakjeaaEx9

namespace Go.Ex
open Go Go.RowKit
noncomputable section

/-- What stands in a cell of plain data, as the executor has it; 'r': where it lies. -/
def fzSc (r : Ref) (s : Sh) (d : FD) : Sc :=
  match s with
  | .bool => .bool (tb d.b)
  | .int k => .int k (.tm d.i)
  | .str => .ostr d.s
  | .list cs => .fz r (.list cs d.ln d.fn)
theorem fzSc_den {η : Env} {E : Emb} {r : Ref} {s : Sh} {d : FD} {v : Value} (hs : s.ex d = d) (hr : Reads E.z d v) (hv : r.val E = some v) : (fzSc r s d).den η E = some v := by
  cases s with
  | bool =>
    rw [← hs] at hr
    simp only [Sh.ex, Reads] at hr
    subst hr
    simp [fzSc, Sc.den, tb_den]
  | int k =>
    rw [← hs] at hr
    simp only [Sh.ex, Reads] at hr
    subst hr
    simp [fzSc, Sc.den, Ix.den]
  | str =>
    rw [← hs] at hr
    simp only [Sh.ex, Reads] at hr
    subst hr
    simp [fzSc, Sc.den]
  | list cs =>
    rw [← hs] at hr
    exact fzDen_some.2 ⟨hv, hr⟩

/-- The cells j .. of an element of a frozen row. -/
def fzCells (r : Ref) (cs : List Sh) (f : Nat → Nat → FD) (i : Nat) : Nat → Nat → List Sc
  | 0, _ => []
  | m + 1, j => fzSc (.elem r (i * cs.length + j)) (shAt cs j) (f i j) :: fzCells r cs f i m (j + 1)

theorem fzCells_den {η : Env} {E : Emb} {r : Ref} {cs : List Sh} {n : Nat} {f : Nat → Nat → FD} {i B o c : Nat} (hr : r.val E = some (.slice (some ⟨B, o, none⟩) n c)) (hd : Reads E.z (.list cs n f) (.slice (some ⟨B, o, none⟩) n c)) (hi : i < n) :
    ∀ (m j : Nat), j + m ≤ cs.length → ∃ vs, denL η E (fzCells r cs f i m j) = some vs ∧ vs.length = m ∧ ∀ k v, vs[k]? = some v → E.z B (o + (i * cs.length + (j + k))) = some v
  | 0, j, _ => ⟨[], rfl, rfl, fun k v h => by simp at h⟩
  | m + 1, j, hm => by
    obtain ⟨vs, h1, h2, h3⟩ := fzCells_den (η := η) hr hd hi m (j + 1) (by omega)
    obtain ⟨a, c', e, _, _, h4⟩ := hd
    cases e
    rcases h4 with h4 | ⟨B', o', ea, h4⟩
    · omega
    cases ea
    obtain ⟨k1, u, k2, k3⟩ := h4 i hi j (by omega)
    have hval : (Ref.elem r (i * cs.length + j)).val E = some u := by simp only [Ref.val, hr]; exact k2
    refine ⟨u :: vs, by simp [fzCells, denL, fzSc_den k1 k3 hval, h1], by simp [h2], fun k v hk => ?_⟩
    cases k with
    | zero => simp at hk; subst hk; exact k2
    | succ k =>
      simp at hk
      have := h3 k v hk
      rw [show j + 1 + k = j + (k + 1) by omega] at this
      exact this

/-- A load that the open forms serve. -/
def openLoad (C : Cx) (hp : T Blk) (t : TypeId) (x : Sv) : Option (Option Bool × Sv) :=
  match x with
  | .one (.fptr r cs _ f i j) => match C.tt.get t with
    | some ti => bif ti.agg then (bif Nat.ble (j + ti.size) cs.length then some (none, .agg (fzCells r cs f i ti.size j)) else none)
        else bif Nat.blt j cs.length then some (none, .one (fzSc (.elem r (i * cs.length + j)) (shAt cs j) (f i j))) else none
    | none => none
  | .one (.rptr b sz i j) => match C.tt.get t, hp.get b with
    | some ti, some (.row _ cs n f) => bif !ti.agg && Nat.beq sz cs.length && Nat.blt j cs.length then (match shAt cs j with
        | .list _ => none
        | s => some (some (Nat.blt i n), .one (fzSc (.root 0 0) s (f i j)))) else none
    | some ti, some (.mat q _ _ _ x m _) => bif !ti.agg && Nat.beq sz 1 && Nat.beq j 0 then some (some (Nat.blt i x), .one (.mown b q i m)) else none
    | _, _ => none
  | .one (.mptr b q i j) => match C.tt.get t, hp.get b with
    | some ti, some (.mat q' _ s _ x m f) => bif !ti.agg && Nat.beq q q' && plainSh s then some (some (Nat.blt i x && Nat.blt j m), .one (fzSc (.root 0 0) s (f i j))) else none
    | _, _ => none
  | _ => none

theorem run_loadCells_z {P : Program} {w : World} {B o : Nat} {vs : List Value} (h : ∀ k v, vs[k]? = some v → w.cell? ⟨B, o + k, none⟩ = some v) : (loadCells ⟨B, o, none⟩ vs.length).run P w = .ok vs.toArray w :=
  run_loadCells_list (P := P) w ⟨B, o, none⟩ vs (fun j v hj => by rw [addr_add]; exact h j v hj)

theorem openLoad_run {C : Cx} {P : Program} {η : Env} {E : Emb} (hC : C.Ok P η) {hp : T Blk} {nx lo base : Nat} {w : World} (hH : HRel η E hp nx lo base w) {t : TypeId} {x sv : Sv} {ob : Option Bool} {va : Value}
    (h : openLoad C hp t x = some (ob, sv)) (hb : ∀ b, ob = some b → b = true) (hx : x.den η E = some va) : ∃ v, sv.den η E = some v ∧ (Instr.loadAt t va).run P w = .ok v w := by
  unfold openLoad at h
  split at h
  · rename_i r cs n f i j
    obtain ⟨B, o, c, h1, h2, h3, rfl⟩ := fptrDen_some.1 hx
    split at h
    · rename_i ti hti
      have hT := hC.tt t ti hti
      cases ha : ti.agg with
      | true =>
        rw [ha] at h
        simp only [cond_true] at h
        cases hle : Nat.ble (j + ti.size) cs.length with
        | false => rw [hle] at h; cases h
        | true =>
          rw [hle] at h; cases h
          obtain ⟨vs, g1, g2, g3⟩ := fzCells_den (η := η) h1 h2 h3 ti.size j (Nat.le_of_ble_eq_true hle)
          refine ⟨.agg vs.toArray, by simp [Sv.den, g1], ?_⟩
          simp only [Instr.loadAt, Instr.sureAddr, loadVar, Sem.run_bind, Sem.run_pure, Result.andThen_ok, hT.run_agg, ha, if_true, hT.run_size]
          have := run_loadCells_z (P := P) (w := w) (B := B) (o := o + (i * cs.length + j)) (vs := vs) (fun k v hk => by
            have := hH.zw _ _ _ (g3 k v hk)
            rw [show o + (i * cs.length + j) + k = o + (i * cs.length + (j + k)) by omega]; exact this)
          rw [g2] at this
          rw [this]; rfl
      | false =>
        rw [ha] at h
        simp only [cond_false] at h
        cases hlt : Nat.blt j cs.length with
        | false => rw [hlt] at h; cases h
        | true =>
          rw [hlt] at h; cases h
          obtain ⟨vs, g1, g2, g3⟩ := fzCells_den (η := η) h1 h2 h3 1 j (Nat.le_of_ble_eq_true hlt)
          simp only [fzCells] at g1
          obtain ⟨v, us, e1, e2, rfl⟩ := denL_cons g1
          refine ⟨v, e1, ?_⟩
          have := hH.zw _ _ _ (g3 0 v rfl)
          simp only [Instr.loadAt, Instr.sureAddr, loadVar, Sem.run_bind, Sem.run_pure, Result.andThen_ok, hT.run_agg, ha, Bool.false_eq_true, if_false, run_load]
          rw [show o + (i * cs.length + j) = o + (i * cs.length + (j + 0)) by omega, this]
    · cases h
  · rename_i b sz i j
    obtain ⟨B, K, hE, rfl⟩ := rptr_den hx
    split at h
    · rename_i ti e cs n f hti hbk
      have hT := hC.tt t ti hti
      cases hc : (!ti.agg && Nat.beq sz cs.length && Nat.blt j cs.length) with
      | false => rw [hc] at h; cases h
      | true =>
        rw [hc] at h
        simp only [Bool.and_eq_true] at hc
        obtain ⟨⟨ha, hsz⟩, hj⟩ := hc
        have ha : ti.agg = false := by simpa using ha
        have hsz := Nat.eq_of_beq_eq_true hsz
        have hj := Nat.le_of_ble_eq_true hj
        subst hsz
        obtain ⟨B', K', hE', c, h1, h2, h3, h4, h5, h6⟩ := hH.cell b _ hbk
        rw [hE] at hE'; cases hE'
        have fin : ∀ s, shAt cs j = s → (∀ l, s ≠ .list l) → some (some (Nat.blt i n), Sv.one (fzSc (.root 0 0) s (f i j))) = some (ob, sv) → ∃ v, sv.den η E = some v ∧ (Instr.loadAt t (.pointer (some ⟨B, i * cs.length + j, none⟩))).run P w = .ok v w := by
          intro s hs hl h
          cases h
          have hi := Nat.le_of_ble_eq_true (hb _ rfl)
          obtain ⟨k1, u, k2, k3⟩ := h6 i hi j hj
          rw [hs] at k1
          have hd : (fzSc (.root 0 0) s (f i j)).den η E = some u := by
            rw [← k1] at k3
            cases s with
            | bool => simp only [Sh.ex, Reads] at k3; subst k3; simp [fzSc, Sc.den, tb_den]
            | int k => simp only [Sh.ex, Reads] at k3; subst k3; simp [fzSc, Sc.den, Ix.den]
            | str => simp only [Sh.ex, Reads] at k3; subst k3; simp [fzSc, Sc.den]
            | list l => exact absurd rfl (hl l)
          refine ⟨u, hd, ?_⟩
          simp only [Instr.loadAt, Instr.sureAddr, loadVar, Sem.run_bind, Sem.run_pure, Result.andThen_ok, hT.run_agg, ha, Bool.false_eq_true, if_false, run_load]
          rw [cell_of_row w B (i * cs.length + j) c e (0, 0) h1, k2]
        simp only [cond_true] at h
        split at h
        · cases h
        · rename_i hne
          exact fin _ rfl (fun l hl => hne l hl) h
    · rename_i ti q e s n x m f hti hbk
      have hT := hC.tt t ti hti
      cases hc : (!ti.agg && Nat.beq sz 1 && Nat.beq j 0) with
      | false => rw [hc] at h; cases h
      | true =>
        rw [hc] at h
        simp only [Bool.and_eq_true] at hc
        obtain ⟨⟨ha, hsz⟩, hj⟩ := hc
        have ha : ti.agg = false := by simpa using ha
        have hsz := Nat.eq_of_beq_eq_true hsz
        have hj := Nat.eq_of_beq_eq_true hj
        subst hsz; subst hj
        cases h
        have hi : i < x := Nat.le_of_ble_eq_true (hb _ rfl)
        obtain ⟨B0, K0, c, k1, k2, k3, k4, k5⟩ := hH.mt.row b q e s n x m f hbk
        rw [hE] at k1; cases k1
        obtain ⟨B', L, l1, l2, c', e', l3, l4, l5, l6, l7⟩ := k4 i hi
        refine ⟨.slice (some ⟨B', 0, none⟩) m L, ?_, ?_⟩
        · show (match E.m q i with
            | some B => if m ≤ B.2 then some (Value.slice (some ⟨B.1, 0, none⟩) m B.2) else none
            | none => none) = _
          rw [l1]
          simp only
          rw [if_pos l5]
        · simp only [Instr.loadAt, Instr.sureAddr, loadVar, Sem.run_bind, Sem.run_pure, Result.andThen_ok, hT.run_agg, ha, Bool.false_eq_true, if_false, run_load]
          rw [cell_of_row w B (i * 1 + 0) c e (0, 0) k2, Nat.mul_one, Nat.add_zero, l2]
    · cases h
  · rename_i b q i j
    have hx : (E.m q i).map (fun B => Value.pointer (some ⟨B.1, j, none⟩)) = some va := hx
    split at h
    · rename_i ti q' e s n x m f hti hbk
      have hT := hC.tt t ti hti
      cases hc : (!ti.agg && Nat.beq q q' && plainSh s) with
      | false => rw [hc] at h; cases h
      | true =>
        rw [hc] at h
        simp only [Bool.and_eq_true] at hc
        obtain ⟨⟨ha, hq⟩, hp'⟩ := hc
        have ha : ti.agg = false := by simpa using ha
        have hq := Nat.eq_of_beq_eq_true hq
        subst hq
        cases h
        have hin := hb _ rfl
        simp only [Bool.and_eq_true] at hin
        have hi : i < x := Nat.le_of_ble_eq_true hin.1
        have hj : j < m := Nat.le_of_ble_eq_true hin.2
        obtain ⟨B0, K0, c, k1, k2, k3, k4, k5⟩ := hH.mt.row b q e s n x m f hbk
        obtain ⟨B', L, l1, l2, c', e', l3, l4, l5, l6, l7⟩ := k4 i hi
        rw [l1] at hx
        cases hx
        obtain ⟨r1, u, r2, r3⟩ := l7 j hj
        refine ⟨u, ?_, ?_⟩
        · rw [← r1] at r3
          cases s with
          | bool => simp only [Sh.ex, Reads] at r3; subst r3; simp [fzSc, Sv.den, Sc.den, tb_den]
          | int k => simp only [Sh.ex, Reads] at r3; subst r3; simp [fzSc, Sv.den, Sc.den, Ix.den]
          | str => simp only [Sh.ex, Reads] at r3; subst r3; simp [fzSc, Sv.den, Sc.den]
          | list l => cases hp'
        · simp only [Instr.loadAt, Instr.sureAddr, loadVar, Sem.run_bind, Sem.run_pure, Result.andThen_ok, hT.run_agg, ha, Bool.false_eq_true, if_false, run_load]
          rw [cell_of_row w B' j c' e' (0, 0) l3, r2]
    · cases h
  · cases h

/-! ## Places -/
def openField (C : Cx) (t : TypeId) (x : Sv) (f : Nat) : Option Sv :=
  match C.tt.get t, x with
  | some ti, .one (.fptr r cs n g i j) => match ti.d with
    | .struct fs => match nth fs.toList f with
      | some fl => match C.tt.get fl.type with
        | some fi => bif Nat.beq fi.size 0 then none else some (.one (.fptr r cs n g i (j + fl.offset)))
        | none => none
      | none => none
    | _ => none
  | some ti, .one (.rptr b sz i j) => match ti.d with
    | .struct fs => match nth fs.toList f with
      | some fl => match C.tt.get fl.type with
        | some fi => bif Nat.beq fi.size 0 then none else some (.one (.rptr b sz i (j + fl.offset)))
        | none => none
      | none => none
    | _ => none
  | _, _ => none
theorem openField_run {C : Cx} {P : Program} {η : Env} {E : Emb} (hC : C.Ok P η) {t : TypeId} {x sv : Sv} {f : Nat} {va : Value} (h : openField C t x f = some sv) (hx : x.den η E = some va) :
    ∃ v, sv.den η E = some v ∧ ∀ w, (Instr.fieldAt t va f).run P w = .ok v w := by
  unfold openField at h
  split at h
  · rename_i ti r cs n g i j hti
    have hT := (hC.tt t ti hti).und
    split at h
    · rename_i fs hd
      rw [hd] at hT
      split at h
      · rename_i fl hf
        split at h
        · rename_i fi hfi
          cases hz : Nat.beq fi.size 0 with
          | true => rw [hz] at h; cases h
          | false =>
            rw [hz] at h; cases h
            obtain ⟨B, o, c, h1, h2, h3, rfl⟩ := fptrDen_some.1 hx
            refine ⟨_, fptrDen_some.2 ⟨B, o, c, h1, h2, h3, rfl⟩, fun w => ?_⟩
            rw [nth_eq, Array.getElem?_toList] at hf
            have hz := Nat.ne_of_beq_eq_false hz
            simp [Instr.fieldAt, run_underlying hT, hf, Instr.sureAddr, fieldPlace, (hC.tt fl.type fi hfi).run_size, hz, addr_add, Nat.add_assoc]
        · cases h
      · cases h
    · cases h
  · rename_i ti b sz i j hti
    have hT := (hC.tt t ti hti).und
    split at h
    · rename_i fs hd
      rw [hd] at hT
      split at h
      · rename_i fl hf
        split at h
        · rename_i fi hfi
          cases hz : Nat.beq fi.size 0 with
          | true => rw [hz] at h; cases h
          | false =>
            rw [hz] at h; cases h
            obtain ⟨B, K, hE, rfl⟩ := rptr_den hx
            refine ⟨_, rptr_mk hE, fun w => ?_⟩
            rw [nth_eq, Array.getElem?_toList] at hf
            have hz := Nat.ne_of_beq_eq_false hz
            simp [Instr.fieldAt, run_underlying hT, hf, Instr.sureAddr, fieldPlace, (hC.tt fl.type fi hfi).run_size, hz, addr_add, Nat.add_assoc]
        · cases h
      · cases h
    · cases h
  · cases h

/-- The number of an index, known or a term. -/
def ixN (x : Sv) : Option Int :=
  match x with
  | .one (.int _ i) => rawI i
  | _ => none
theorem ixN_den {η : Env} {E : Emb} {x : Sv} {n : Int} {va : Value} (h : ixN x = some n) (hx : x.den η E = some va) : ∃ k, va = .int k n := by
  unfold ixN at h
  split at h
  · rename_i k i
    cases hx
    exact ⟨k, by rw [rawI_den h]⟩
  · cases h
def inB0 (i : Int) (n : Nat) : Bool := decide (0 ≤ i) && decide (i < (n : Int))
def openIx (C : Cx) (t : TypeId) (x ix : Sv) : Option (Option Bool × Sv) :=
  match C.tt.get t, x, ixN ix with
  | some ti, .one (.fz r (.list cs n f)), some i => match ti.d with
    | .slice e => match C.tt.get e with
      | some ei => bif Nat.beq ei.size cs.length then some (some (inB0 i n), .one (.fptr r cs n f i.toNat 0)) else none
      | none => none
    | _ => none
  | some ti, .one (.own b n), some i => match ti.d with
    | .slice e => match C.tt.get e with
      | some ei => some (some (inB0 i n), .one (.rptr b ei.size i.toNat 0))
      | none => none
    | _ => none
  | some ti, .one (.mown b q r n), some i => match ti.d with
    | .slice e => match C.tt.get e with
      | some ei => bif Nat.beq ei.size 1 then some (some (inB0 i n), .one (.mptr b q r i.toNat)) else none
      | none => none
    | _ => none
  | _, _, _ => none
theorem openIx_run {C : Cx} {P : Program} {η : Env} {E : Emb} (hC : C.Ok P η) {t : TypeId} {x ix sv : Sv} {ob : Option Bool} {va vi : Value} (h : openIx C t x ix = some (ob, sv)) (hb : ∀ b, ob = some b → b = true) (hx : x.den η E = some va) (hi : ix.den η E = some vi) :
    ∃ v, sv.den η E = some v ∧ ∀ w, (Instr.indexAt t va vi).run P w = .ok v w := by
  unfold openIx at h
  split at h
  · rename_i ti r cs n f i hti hix
    have hT := (hC.tt t ti hti).und
    obtain ⟨k, rfl⟩ := ixN_den hix hi
    split at h
    · rename_i e hd
      rw [hd] at hT
      split at h
      · rename_i ei hei
        cases hsz : Nat.beq ei.size cs.length with
        | false => rw [hsz] at h; cases h
        | true =>
          rw [hsz] at h; cases h
          have hsz := Nat.eq_of_beq_eq_true hsz
          have hin := hb _ rfl
          simp only [inB0, Bool.and_eq_true, decide_eq_true_eq] at hin
          obtain ⟨h1, h2⟩ := fzDen_some.1 hx
          have h2' := h2
          obtain ⟨a, c, rfl, g2, g3, g4⟩ := h2
          rcases g4 with g4 | ⟨B, o, rfl, g4⟩
          · omega
          refine ⟨.pointer (some ⟨B, o + (i.toNat * cs.length + 0), none⟩), fptrDen_some.2 ⟨B, o, c, h1, h2', by omega, rfl⟩, fun w => ?_⟩
          simp [Instr.indexAt, asIntOf, run_underlying hT, hin, (hC.tt e ei hei).run_size, addr_add, hsz]
      · cases h
    · cases h
  · rename_i ti b n i hti hix
    have hT := (hC.tt t ti hti).und
    obtain ⟨k, rfl⟩ := ixN_den hix hi
    split at h
    · rename_i e hd
      rw [hd] at hT
      split at h
      · rename_i ei hei
        cases h
        have hin := hb _ rfl
        simp only [inB0, Bool.and_eq_true, decide_eq_true_eq] at hin
        obtain ⟨B, K, hE, rfl, hn⟩ := own_den hx
        refine ⟨_, rptr_mk hE, fun w => ?_⟩
        simp [Instr.indexAt, asIntOf, run_underlying hT, hin, (hC.tt e ei hei).run_size, addr_add]
      · cases h
    · cases h
  · rename_i ti b q r n i hti hix
    have hT := (hC.tt t ti hti).und
    obtain ⟨k, rfl⟩ := ixN_den hix hi
    split at h
    · rename_i e hd
      rw [hd] at hT
      split at h
      · rename_i ei hei
        cases hsz : Nat.beq ei.size 1 with
        | false => rw [hsz] at h; cases h
        | true =>
          rw [hsz] at h; cases h
          have hsz := Nat.eq_of_beq_eq_true hsz
          have hin := hb _ rfl
          simp only [inB0, Bool.and_eq_true, decide_eq_true_eq] at hin
          have hx : (match E.m q r with
            | some B => if n ≤ B.2 then some (Value.slice (some ⟨B.1, 0, none⟩) n B.2) else none
            | none => none) = some va := hx
          split at hx
          · rename_i X hE
            split at hx
            · cases hx
              refine ⟨.pointer (some ⟨X.1, i.toNat, none⟩), ?_, fun w => ?_⟩
              · show (E.m q r).map _ = _
                rw [hE]; rfl
              · simp [Instr.indexAt, asIntOf, run_underlying hT, hin, (hC.tt e ei hei).run_size, addr_add, hsz]
            · cases hx
          · cases hx
      · cases h
    · cases h
  · cases h

/-- A byte of a text. -/
def strOf (x : Sv) : Option (List UInt8) :=
  match x with
  | .one (.str l) => some l
  | .one (.ostr l) => some l
  | _ => none
theorem strOf_den {η : Env} {E : Emb} {x : Sv} {l : List UInt8} {va : Value} (h : strOf x = some l) (hx : x.den η E = some va) : va = .string ⟨l.toArray⟩ := by
  unfold strOf at h
  split at h <;> first | (cases h; cases hx; rfl) | cases h
def isTmS (x : Sv) : Bool :=
  match x with
  | .one (.int _ (.tm _)) => true
  | .one (.ostr _) => true
  | _ => false
def openIndex (C : Cx) (t : TypeId) (x ix : Sv) : Option (Option Bool × Sv) :=
  bif isTmS x || isTmS ix then match C.tt.get t, strOf x, ixN ix with
  | some ti, some l, some i => match ti.d with
    | .string => some (some (inB0 i l.length), .one (.int .u8 (.tm (.ofNat (l.getD i.toNat 0).toNat))))
    | _ => none
  | _, _, _ => none
  else none
theorem openIndex_run {C : Cx} {P : Program} {η : Env} {E : Emb} (hC : C.Ok P η) {t : TypeId} {x ix sv : Sv} {ob : Option Bool} {va vi : Value} (h : openIndex C t x ix = some (ob, sv)) (hb : ∀ b, ob = some b → b = true) (hx : x.den η E = some va) (hi : ix.den η E = some vi) :
    ∃ v, sv.den η E = some v ∧ ∀ w, (Instr.index t va vi).run P w = .ok v w := by
  unfold openIndex at h
  cases hc : (isTmS x || isTmS ix) with
  | false => rw [hc] at h; cases h
  | true =>
    rw [hc] at h
    simp only [cond_true] at h
    split at h
    · rename_i ti l i hti hl hix
      have hT := (hC.tt t ti hti).und
      obtain ⟨k, rfl⟩ := ixN_den hix hi
      have e := strOf_den hl hx
      subst e
      split at h
      · rename_i hd
        rw [hd] at hT
        cases h
        have hin := hb _ rfl
        simp only [inB0, Bool.and_eq_true, decide_eq_true_eq] at hin
        have hlt : i.toNat < l.length := by omega
        refine ⟨_, rfl, fun w => ?_⟩
        have hg : (⟨l.toArray⟩ : ByteArray)[i.toNat]? = some (l[i.toNat]'hlt) := by
          have : i.toNat < (⟨l.toArray⟩ : ByteArray).size := by simpa [ByteArray.size] using hlt
          have e : (⟨l.toArray⟩ : ByteArray)[i.toNat]'this = l[i.toNat]'hlt := rfl
          rw [getElem?_pos (⟨l.toArray⟩ : ByteArray) i.toNat this, e]
        have e2 : l.getD i.toNat 0 = l[i.toNat]'hlt := by simp [List.getD, List.getElem?_eq_getElem hlt]
        have h0 : ¬ i < 0 := by omega
        simp [Instr.index, asIntOf, run_underlying hT, hg, Ix.den, hin]
        try omega
      · cases h
    · cases h

/-! ## Slices -/
def bndI (x : Option Sv) (d : Int) : Option Int :=
  match x with
  | none => some d
  | some s => ixN s
theorem run_boundsI {P : Program} {η : Env} {E : Emb} (w : World) {isS : Bool} {len cap : Nat} {lo hi : Option Sv} {vl vh : Option Value} {l h : Int} (hl : bndI lo 0 = some l) (hh : bndI hi len = some h)
    (rl : BndRel η E lo vl) (rh : BndRel η E hi vh) (h0 : 0 ≤ l) (h1 : l ≤ h) (h2 : h ≤ (cap : Int)) : (Instr.sliceBounds isS len cap vl vh none).run P w = .ok (l.toNat, h.toNat, cap) w := by
  have hiRun : (match vh with
      | some v => Instr.sliceBound v cap (if isS then .sliceAcap else .sliceAlen)
      | none => pure len : Sem Nat).run P w = .ok h.toNat w := by
    cases hi with
    | none =>
      cases vh with
      | none => cases hh; simp
      | some v => cases rh
    | some s =>
      cases vh with
      | none => cases rh
      | some v =>
        obtain ⟨k, rfl⟩ := ixN_den hh rh
        have hb : (0 : Int) ≤ h ∧ h ≤ (cap : Int) := by omega
        simp [Instr.sliceBound, asIntOf, hb]
  have loRun : (match vl with
      | some v => Instr.sliceBound v h.toNat .sliceB
      | none => pure 0 : Sem Nat).run P w = .ok l.toNat w := by
    cases lo with
    | none =>
      cases vl with
      | none => cases hl; rfl
      | some v => cases rl
    | some s =>
      cases vl with
      | none => cases rl
      | some v =>
        obtain ⟨k, rfl⟩ := ixN_den hl rl
        have hb : (0 : Int) ≤ l ∧ l ≤ ((h.toNat : Nat) : Int) := by omega
        simp only [Instr.sliceBound, asIntOf, Sem.run_bind, Sem.run_pure, Result.andThen_ok, if_pos hb]
  unfold Instr.sliceBounds
  cases vh <;> cases vl <;> simp_all

def sliceIn (l h : Int) (n : Nat) : Bool := decide (0 ≤ l) && (decide (l ≤ h) && decide (h ≤ (n : Int)))
def openSlice (C : Cx) (t : TypeId) (x : Sv) (lo hi : Option Sv) : Option (Option Bool × Sv) :=
  match C.tt.get t, x, bndI lo 0 with
  | some ti, .one (.fz r (.list cs n f)), some l => match ti.d with
    | .slice e => match C.tt.get e, bndI hi n with
      | some ei, some h => bif Nat.beq ei.size cs.length then some (some (sliceIn l h n), .one (.fz (.sub r cs.length l.toNat (h - l).toNat) (.list cs (h - l).toNat fun i j => f (l.toNat + i) j))) else none
      | _, _ => none
    | _ => none
  | some ti, .one (.own b n), some l => match ti.d with
    | .slice e => match C.tt.get e, bndI hi n with
      | some _, some h => bif decide (l = 0) then some (some (sliceIn l h n), .one (.own b h.toNat)) else none
      | _, _ => none
    | _ => none
  | some ti, .one (.ostr s), some l => match ti.d with
    | .string => match bndI hi s.length with
      | some h => some (some (sliceIn l h s.length), .one (.ostr ((s.drop l.toNat).take (h - l).toNat)))
      | none => none
    | _ => none
  | _, _, _ => none
theorem openSlice_run {C : Cx} {P : Program} {η : Env} {E : Emb} (hC : C.Ok P η) {t : TypeId} {x sv : Sv} {lo hi : Option Sv} {ob : Option Bool} {va : Value} {vl vh : Option Value} (h : openSlice C t x lo hi = some (ob, sv)) (hb : ∀ b, ob = some b → b = true) (hx : x.den η E = some va)
    (rl : BndRel η E lo vl) (rh : BndRel η E hi vh) : ∃ v, sv.den η E = some v ∧ ∀ w, (Instr.sliceAt t va vl vh none).run P w = .ok v w := by
  unfold openSlice at h
  split at h
  · rename_i ti r cs n f l hti hl
    have hT := (hC.tt t ti hti).und
    split at h
    · rename_i e hd
      rw [hd] at hT
      split at h
      · rename_i ei h' hei hh
        cases hsz : Nat.beq ei.size cs.length with
        | false => rw [hsz] at h; cases h
        | true =>
          rw [hsz] at h; cases h
          have hsz := Nat.eq_of_beq_eq_true hsz
          have hin := hb _ rfl
          simp only [sliceIn, Bool.and_eq_true, decide_eq_true_eq] at hin
          obtain ⟨i1, i2, i3⟩ := hin
          obtain ⟨h1, h2⟩ := fzDen_some.1 hx
          obtain ⟨a, c, rfl, g2, g3, g4⟩ := h2
          refine ⟨.slice (if c = l.toNat then a else a.map (·.add (l.toNat * cs.length))) (h' - l).toNat (c - l.toNat), ?_, fun w => ?_⟩
          · refine fzDen_some.2 ⟨by simp only [Ref.val, h1], _, _, rfl, by omega, by omega, ?_⟩
            rcases Nat.eq_zero_or_pos (h' - l).toNat with h0 | h0
            · exact .inl h0
            · rcases g4 with g4 | ⟨B, o, rfl, g4⟩
              · omega
              refine .inr ⟨B, o + l.toNat * cs.length, by rw [if_neg (by omega)]; simp [addr_add], fun i hi j hj => ?_⟩
              obtain ⟨k1, u, k2, k3⟩ := g4 (l.toNat + i) (by omega) j hj
              refine ⟨k1, u, ?_, k3⟩
              rw [← k2]; congr 1; rw [Nat.add_mul]; omega
          · have hbn := run_boundsI (P := P) (η := η) (E := E) w (isS := true) (len := n) (cap := c) hl hh rl rh i1 i2 (by omega)
            simp only [Instr.sliceAt, Sem.run_bind, run_underlying hT, Result.andThen_ok, Instr.slice, hbn, (hC.tt e ei hei).run_size, Sem.run_pure, hsz]
            rw [show h'.toNat - l.toNat = (h' - l).toNat by omega]
      · cases h
    · cases h
  · rename_i ti b n l hti hl
    have hT := (hC.tt t ti hti).und
    split at h
    · rename_i e hd
      rw [hd] at hT
      split at h
      · rename_i ei h' hei hh
        cases hl0 : decide (l = 0) with
        | false => rw [hl0] at h; cases h
        | true =>
          rw [hl0] at h; cases h
          have hl0 := of_decide_eq_true hl0
          subst hl0
          have hin := hb _ rfl
          simp only [sliceIn, Bool.and_eq_true, decide_eq_true_eq] at hin
          obtain ⟨i1, i2, i3⟩ := hin
          obtain ⟨B, K, hE, rfl, hnK⟩ := own_den hx
          refine ⟨.slice (some ⟨B, 0, none⟩) h'.toNat K, own_mk hE (by omega), fun w => ?_⟩
          have hbn := run_boundsI (P := P) (η := η) (E := E) w (isS := true) (len := n) (cap := K) hl hh rl rh i1 i2 (by omega)
          simp only [Instr.sliceAt, Sem.run_bind, run_underlying hT, Result.andThen_ok, Instr.slice, hbn, (hC.tt e ei hei).run_size, Sem.run_pure]
          simp [Addr.add]
      · cases h
    · cases h
  · rename_i ti s l hti hl
    have hT := (hC.tt t ti hti).und
    cases hx
    split at h
    · rename_i hd
      rw [hd] at hT
      split at h
      · rename_i h' hh
        cases h
        have hin := hb _ rfl
        simp only [sliceIn, Bool.and_eq_true, decide_eq_true_eq] at hin
        obtain ⟨i1, i2, i3⟩ := hin
        refine ⟨_, rfl, fun w => ?_⟩
        have es : (⟨s.toArray⟩ : ByteArray).size = s.length := by simp [ByteArray.size]
        rw [← es] at hh i3
        have hbn := run_boundsI (P := P) (η := η) (E := E) w (isS := false) hl hh rl rh i1 i2 i3
        simp only [Instr.sliceAt, Sem.run_bind, run_underlying hT, Result.andThen_ok, Instr.slice, Option.isSome_none, Bool.false_eq_true, if_false, Sem.run_pure, hbn]
        congr 2
        apply ByteArray.ext
        simp [ByteArray.data_extract, List.extract_toArray, List.extract_eq_take_drop]
        congr 1; omega
      · cases h
    · cases h
  · cases h

end
end Go.Ex

