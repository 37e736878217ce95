/-
  The executor's slices of slices, composite values, built-in functions; all operations that leave memory alone, together.
-/
import Derived.Test.YtdpabnfcfakjeaaEx7

namespace Go.Ex
open Go Go.RowKit
noncomputable section

/-! ## Slicing -/
def bnd (x : Option Sv) (d : Nat) : Option Nat :=
  match x with
  | none => some d
  | some s => match litN s with
    | some (_, n) => some n
    | none => none
/-- A bound as the run has it. -/
def BndRel (η : Env) (E : Emb) (x : Option Sv) (v : Option Value) : Prop :=
  match x, v with
  | none, none => True
  | some s, some u => s.den η E = some u
  | _, _ => False

theorem run_bounds {P : Program} {η : Env} {E : Emb} (w : World) {isS : Bool} {len cap l h : Nat} {lo hi : Option Sv} {vl vh : Option Value} (hl : bnd lo 0 = some l) (hh : bnd hi len = some h)
    (rl : BndRel η E lo vl) (rh : BndRel η E hi vh) (h1 : l ≤ h) (h2 : h ≤ cap) : (Instr.sliceBounds isS len cap vl vh none).run P w = .ok (l, h, cap) w := by
  have hiRun : (match vh with
      | some v => Instr.sliceBound v cap (if isS then .sliceAcap else .sliceAlen)
      | none => pure len : Sem Nat).run P w = .ok h w := by
    cases hi with
    | none =>
      cases vh with
      | none => cases hh; rfl
      | some v => cases rh
    | some s =>
      cases vh with
      | none => cases rh
      | some v =>
        simp only [bnd] at hh
        split at hh
        · rename_i k n hs
          cases hh
          have e := litN_den hs rh
          subst e
          have hb : (0 : Int) ≤ (h : Int) ∧ (h : Int) ≤ (cap : Int) := by omega
          simp [Instr.sliceBound, asIntOf, hb]
        · cases hh
  have loRun : (match vl with
      | some v => Instr.sliceBound v h .sliceB
      | none => pure 0 : Sem Nat).run P w = .ok l w := by
    cases lo with
    | none =>
      cases vl with
      | none => cases hl; rfl
      | some v => cases rl
    | some s =>
      cases vl with
      | none => cases rl
      | some v =>
        simp only [bnd] at hl
        split at hl
        · rename_i k n hs
          cases hl
          have e := litN_den hs rl
          subst e
          have hb : (0 : Int) ≤ (l : Int) ∧ (l : Int) ≤ (h : Int) := by omega
          simp [Instr.sliceBound, asIntOf, hb]
        · cases hl
  unfold Instr.sliceBounds
  cases vh <;> cases vl <;> simp_all

def sliceX (C : Cx) (t : TypeId) (x : Sv) (lo hi : Option Sv) : Option Sv :=
  match C.tt.get t, x, bnd lo 0 with
  | some ti, .one (.ptr (some (b, o))), some l => match ti.d with
    | .array n e => match C.tt.get e, bnd hi n with
      | some ei, some h => bif Nat.ble l h && Nat.ble h n then
          some (.one (.slice (some (bif Nat.beq n l then (b, o) else (b, o + l * ei.size))) (h - l) (.known (n - l)))) else none
      | _, _ => none
    | _ => none
  | some ti, .one (.slice (some (b, o)) n c), some l => match ti.d with
    | .slice e => match C.tt.get e, bnd hi n, c with
      | some ei, some h, .known c => bif Nat.ble l h && Nat.ble h c then
          some (.one (.slice (some (bif Nat.beq c l then (b, o) else (b, o + l * ei.size))) (h - l) (.known (c - l)))) else none
      | some ei, some h, .rest k => bif Nat.ble l h && Nat.ble h n && (Nat.beq l 0 || Nat.blt l n) then
          some (.one (.slice (some (b, o + l * ei.size)) (h - l) (.rest (k + l)))) else none
      | _, _, _ => none
    | _ => none
  | some ti, .one (.slice none 0 (.known 0)), some l => match ti.d with
    | .slice e => match C.tt.get e, bnd hi 0 with
      | some _, some 0 => bif Nat.beq l 0 then some (.one (.slice none 0 (.known 0))) else none
      | _, _ => none
    | _ => none
  | some ti, .one (.str s), some l => match ti.d with
    | .string => match bnd hi s.length with
      | some h => bif Nat.ble l h && Nat.ble h s.length then some (.one (.str ((s.drop l).take (h - l)))) else none
      | none => none
    | _ => none
  | _, _, _ => none

theorem and_true2 {a b : Bool} (h : (a && b) = true) : a = true ∧ b = true := by simpa using h

theorem sliceX_run {C : Cx} {P : Program} {η : Env} {E : Emb} (hC : C.Ok P η) {t : TypeId} {x sv : Sv} {lo hi : Option Sv} {va : Value} {vl vh : Option Value} (h : sliceX C t x lo hi = some sv) (hx : x.den η E = some va)
    (rl : BndRel η E lo vl) (rh : BndRel η E hi vh) : ∃ v, sv.den η E = some v ∧ ∀ w, (Instr.sliceAt t va vl vh none).run P w = .ok v w := by
  unfold sliceX at h
  split at h
  · rename_i ti b o l hti hl
    have hT := (hC.tt t ti hti).und
    split at h
    · rename_i n e hd
      rw [hd] at hT
      split at h
      · rename_i ei h' hei hh
        cases hc : (Nat.ble l h' && Nat.ble h' n) with
        | false => rw [hc] at h; cases h
        | true =>
          rw [hc] at h; cases h
          obtain ⟨c1, c2⟩ := and_true2 hc
          have c1 := Nat.le_of_ble_eq_true c1
          have c2 := Nat.le_of_ble_eq_true c2
          obtain ⟨B, K, hE, rfl⟩ := ptr_den hx
          refine ⟨.slice (some ⟨B, if n = l then o else o + l * ei.size, none⟩) (h' - l) (n - l), ?_, fun w => ?_⟩
          · rw [beq_eq]
            by_cases e0 : n = l <;> simp [Sv.den, Sc.den, denAddr, hE, e0]
          · have hb := run_bounds (P := P) (η := η) (E := E) w (isS := false) hl hh rl rh c1 c2
            simp only [Instr.sliceAt, Sem.run_bind, run_underlying hT, Result.andThen_ok, Instr.sureAddr, Sem.run_pure, hb, (hC.tt e ei hei).run_size]
            congr 3
            by_cases e0 : n = l <;> simp [e0, addr_add]
      · cases h
    · cases h
  · rename_i ti b o n c l hti hl
    have hT := (hC.tt t ti hti).und
    obtain ⟨B, K, m, hE, rfl, hm1, hm2⟩ := slice_den hx
    split at h
    · rename_i e hd
      rw [hd] at hT
      split at h
      · rename_i ei h' c' hei hh
        cases hc : (Nat.ble l h' && Nat.ble h' c') with
        | false => rw [hc] at h; cases h
        | true =>
          rw [hc] at h; cases h
          obtain ⟨c1, c2⟩ := and_true2 hc
          have c1 := Nat.le_of_ble_eq_true c1
          have c2 := Nat.le_of_ble_eq_true c2
          have hm := hm1 _ rfl
          subst hm
          refine ⟨.slice (some ⟨B, if m = l then o else o + l * ei.size, none⟩) (h' - l) (m - l), ?_, fun w => ?_⟩
          · rw [beq_eq]
            by_cases e0 : m = l <;> simp [Sv.den, Sc.den, denAddr, hE, e0]
          · have hb := run_bounds (P := P) (η := η) (E := E) w (isS := true) hl hh rl rh c1 c2
            simp only [Instr.sliceAt, Sem.run_bind, run_underlying hT, Result.andThen_ok, Instr.slice, hb, (hC.tt e ei hei).run_size, Sem.run_pure]
            by_cases e0 : m = l <;> simp [e0, addr_add]
      · rename_i ei h' k hei hh
        cases hc : (Nat.ble l h' && Nat.ble h' n && (Nat.beq l 0 || Nat.blt l n)) with
        | false => rw [hc] at h; cases h
        | true =>
          rw [hc] at h; cases h
          obtain ⟨c12, c3⟩ := and_true2 hc
          obtain ⟨c1, c2⟩ := and_true2 c12
          have c1 := Nat.le_of_ble_eq_true c1
          have c2 := Nat.le_of_ble_eq_true c2
          obtain ⟨hm, hK⟩ := hm2 _ rfl
          have c3 : l = 0 ∨ l < n := by
            rw [Bool.or_eq_true] at c3
            rcases c3 with c3 | c3
            · exact .inl (Nat.eq_of_beq_eq_true c3)
            · exact .inr (Nat.le_of_ble_eq_true c3)
          refine ⟨.slice (some ⟨B, o + l * ei.size, none⟩) (h' - l) (m - l), ?_, fun w => ?_⟩
          · have : h' - l + (k + l) ≤ K := by omega
            simp only [Sv.den, Sc.den, hE, if_pos this]
            rw [hm]
            congr 2; omega
          · have hb := run_bounds (P := P) (η := η) (E := E) w (isS := true) hl hh rl rh c1 (Nat.le_trans c2 (by omega : n ≤ m))
            simp only [Instr.sliceAt, Sem.run_bind, run_underlying hT, Result.andThen_ok, Instr.slice, hb, (hC.tt e ei hei).run_size, Sem.run_pure]
            by_cases e0 : m = l
            · have : l = 0 := by omega
              simp [e0, this]
            · simp [e0, addr_add]
      · cases h
    · cases h
  · rename_i ti l hti hl
    have hT := (hC.tt t ti hti).und
    cases hx
    split at h
    · rename_i e hd
      rw [hd] at hT
      split at h
      · rename_i ei hei hh
        cases hc : Nat.beq l 0 with
        | false => rw [hc] at h; cases h
        | true =>
          rw [hc] at h; cases h
          have c0 := Nat.eq_of_beq_eq_true hc
          subst c0
          refine ⟨_, rfl, fun w => ?_⟩
          have hb := run_bounds (P := P) (η := η) (E := E) w (isS := true) (len := 0) (cap := 0) hl hh rl rh (Nat.le_refl _) (Nat.le_refl _)
          simp only [Instr.sliceAt, Sem.run_bind, run_underlying hT, Result.andThen_ok, Instr.slice, hb, (hC.tt e ei hei).run_size, Sem.run_pure]
          simp
      · cases h
    · cases h
  · rename_i ti s l hti hl
    have hT := (hC.tt t ti hti).und
    cases hx
    split at h
    · rename_i hd
      rw [hd] at hT
      split at h
      · rename_i h' hh
        cases hc : (Nat.ble l h' && Nat.ble h' s.length) with
        | false => rw [hc] at h; cases h
        | true =>
          rw [hc] at h; cases h
          obtain ⟨c1, c2⟩ := and_true2 hc
          have c1 := Nat.le_of_ble_eq_true c1
          have c2 := Nat.le_of_ble_eq_true c2
          refine ⟨_, rfl, fun w => ?_⟩
          have es : (⟨s.toArray⟩ : ByteArray).size = s.length := by simp [ByteArray.size]
          rw [← es] at hh c2
          have hb := run_bounds (P := P) (η := η) (E := E) w (isS := false) hl hh rl rh c1 c2
          simp only [Instr.sliceAt, Sem.run_bind, run_underlying hT, Result.andThen_ok, Instr.slice, Option.isSome_none, Bool.false_eq_true, if_false, Sem.run_pure, hb]
          congr 2
          apply ByteArray.ext
          simp [ByteArray.data_extract, List.extract_toArray, List.extract_eq_take_drop]
      · cases h
    · cases h
  · cases h

end
end Go.Ex

