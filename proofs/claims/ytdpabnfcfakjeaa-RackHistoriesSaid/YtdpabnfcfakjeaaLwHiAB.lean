/-
  Contracts: how a history is followed.
-/
/-
  Contracts: CheckHistory, StateOf; the document's State, eventErr, CheckHistory.
-/
import Derived.Test.YtdpabnfcfakjeaaLwHiZ

namespace Go.Ex
open Go Go.Proofs Go.RowKit
noncomputable section
set_option maxRecDepth 1000000

def smLa : T Smf := (T.set (T.set smE 128 (some (gFd isNameS (.one .bool) isNameC isNameR))) 83 (some (gFd IsNameS (.one .bool) IsNameC IsNameR)))
theorem smLa_ok : Tab SmOk smLa := (Tab.set (Tab.set smE_ok (by kernel_rfl) (smOk_of smE_ok gs3_ok isName_ok rfl)) (by kernel_rfl) (smOk_of smE_ok gs3_ok IsName_ok rfl))
/-- The first error of a row of things, and its number. -/
def firE (e : Nat → Int) : Nat → Int
  | 0 => 0
  | n + 1 => if firE e n = 0 then e n else firE e n
def firI (e : Nat → Int) : Nat → Int
  | 0 => 0
  | n + 1 => if firE e n = 0 then (if e n = 0 then 0 else (n : Int)) else firI e n
theorem firE_hit {e : Nat → Int} {x : Nat} (h : firE e x = 0) (hx : e x ≠ 0) : ∀ {n : Nat}, x < n → firE e n = e x ∧ firI e n = (x : Int)
  | n + 1, hn => by
    by_cases hxn : x = n
    · subst hxn
      simp only [firE, firI, h, if_true, if_neg hx]
      exact ⟨trivial, trivial⟩
    · obtain ⟨h1, h2⟩ := firE_hit h hx (n := n) (by omega)
      simp only [firE, firI, h1, if_neg hx]
      exact ⟨trivial, h2⟩
theorem firE_up {e : Nat → Int} {x : Nat} (h : firE e x = 0) (hx : e x = 0) : firE e (x + 1) = 0 := by simp only [firE, h, if_true, hx]
theorem firI_zero {e : Nat → Int} : ∀ {n : Nat}, firE e n = 0 → firI e n = 0
  | 0, _ => rfl
  | n + 1, h => by
    simp only [firE] at h
    split at h
    · rename_i h'
      simp only [firI, h', if_true, h]
    · omega
theorem firE_low {e : Nat → Int} : ∀ {n : Nat}, firE e n = 0 → ∀ i, i < n → e i = 0
  | n + 1, h, i, hi => by
    simp only [firE] at h
    split at h
    · rename_i h'
      by_cases e : i = n
      · subst e; exact h
      · exact firE_low h' i (by omega)
    · omega
theorem firE_pre {e : Nat → Int} {m n : Nat} (h : firE e n = 0) (hm : m ≤ n) : firE e m = 0 := by
  induction m with
  | zero => rfl
  | succ m ih => exact firE_up (ih (by omega)) (firE_low h m (by omega))

/-! ## Histories -/
abbrev PSt := List UInt8 × Bool × Int
def stNext (f : Nat → Nat → FD) (n : Nat) (s : PSt) : PSt := if (f n 0).i = 2 then ([], false, s.2.2 + 1) else ((f n 2).s, decide ((f n 0).i = 1), s.2.2)
/-- The state of a part behind some events. -/
def stF (f : Nat → Nat → FD) : Nat → List UInt8 → Option PSt
  | 0, _ => none
  | n + 1, p => if bytesEq (f n 1).s p = true then some (stNext f n ((stF f n p).getD ([], false, 0))) else stF f n p
def stFD (s : PSt) : List FD := [.str s.1, .bool s.2.1, .int .i64 s.2.2]
def stM (f : Nat → Nat → FD) (n : Nat) (p : List UInt8) : Option (List FD) := (stF f n p).map stFD
/-- The parts that are coated, in their order. -/
def ordF (f : Nat → Nat → FD) : Nat → List (List UInt8)
  | 0 => []
  | n + 1 => if (f n 0).i = 2 then (ordF f n).filter (fun s => !bytesEq s (f n 1).s) else ordF f n ++ [(f n 1).s]
def evS (f : Nat → Nat → FD) (n : Nat) : PSt := (stF f n (f n 1).s).getD ([], false, 0)
/-- The error of an event. -/
def evE (f : Nat → Nat → FD) (n : Nat) : Int :=
  if 0 ≤ (f n 0).i ∧ (f n 0).i ≤ 2 then (if nameB (f n 1).s = true then
    (if (f n 0).i = 2 then (if bytesEq (f n 2).s [] = true then (if bytesEq (evS f n).1 [] = true then 22 else if (evS f n).2.2 = 3 then 16 else 0) else 13)
     else (if nameB (f n 2).s = true then (if bytesEq (evS f n).1 [] = true then 0 else 22) else 3)) else 3) else 11
def folE (n : Nat) (f : Nat → Nat → FD) : Int := if n ≤ 100 then firE (evE f) n else 8
def folI (n : Nat) (f : Nat → Nat → FD) : Int := if n ≤ 100 then firI (evE f) n else 0
/-- Names of at most 20 bytes. -/
def evAt (f : Nat → Nat → FD) (i : Nat) : Bool := Nat.ble (f i 1).s.length 20 && Nat.ble (f i 2).s.length 20
def evsB (n : Nat) (f : Nat → Nat → FD) : Bool := (Nat.ble n 20 || (Nat.ble 101 n && Nat.ble n 102)) && natAll (evAt f) n

theorem bytesEq_true {l m : List UInt8} : bytesEq l m = true ↔ l = m := by rw [bytesEq_eq]; simp
theorem bytesEq_false {l m : List UInt8} : bytesEq l m = false ↔ l ≠ m := by
  rw [← Bool.not_eq_true, bytesEq_true]
theorem evsB_spec {n : Nat} {f : Nat → Nat → FD} (h : evsB n f = true) : n ≤ 102 ∧ (n ≤ 100 → n ≤ 20) ∧ ∀ i, i < n → (f i 1).s.length ≤ 20 ∧ (f i 2).s.length ≤ 20 := by
  simp only [evsB, Bool.and_eq_true, Bool.or_eq_true, Nat.ble_eq] at h
  obtain ⟨h1, h2⟩ := h
  refine ⟨by omega, by omega, fun i hi => ?_⟩
  have := natAll_spec h2 i hi
  simp only [evAt, Bool.and_eq_true, Nat.ble_eq] at this
  exact this
theorem stF_strips (f : Nat → Nat → FD) : ∀ n p, 0 ≤ ((stF f n p).getD ([], false, 0)).2.2 ∧ ((stF f n p).getD ([], false, 0)).2.2 ≤ n
  | 0, p => by simp [stF]
  | n + 1, p => by
    have := stF_strips f n p
    simp only [stF]
    split
    · simp only [Option.getD_some, stNext]
      split <;> simp only [] <;> omega
    · omega
theorem mgt_st (f : Nat → Nat → FD) (n : Nat) (p : List UInt8) (k : Nat) : mgt (stM f n p) [FD.str [], FD.bool false, FD.int .i64 0] k = atFD (stFD ((stF f n p).getD ([], false, 0))) k := by
  unfold stM mgt
  cases stF f n p with
  | none => rfl
  | some s => rfl
theorem stM_next (f : Nat → Nat → FD) (n : Nat) (p : List UInt8) : stM f (n + 1) p = if p = (f n 1).s then some (stFD (stNext f n (evS f n))) else stM f n p := by
  unfold stM
  simp only [stF]
  by_cases h : p = (f n 1).s
  · subst h
    rw [if_pos rfl, if_pos (bytesEq_true.2 rfl)]
    rfl
  · rw [if_neg h, if_neg (fun e => h (bytesEq_true.1 e).symm)]
theorem fol_hit {f : Nat → Nat → FD} {n y : Nat} {E : Int} (hn : n ≤ 100) (h : firE (evE f) y = 0) (hy : y < n) (he : evE f y = E) (hE : E ≠ 0) : folE n f = E ∧ folI n f = y := by
  obtain ⟨h1, h2⟩ := firE_hit h (by rw [he]; exact hE) hy
  rw [folE, folI, if_pos hn, if_pos hn, h1, h2]
  exact ⟨he, rfl⟩
theorem fol_ok {f : Nat → Nat → FD} {n : Nat} (hn : n ≤ 100) (h : firE (evE f) n = 0) : folE n f = 0 ∧ folI n f = 0 := by
  rw [folE, folI, if_pos hn, if_pos hn]
  exact ⟨h, firI_zero h⟩
theorem ordF_length (f : Nat → Nat → FD) : ∀ n, (ordF f n).length ≤ n
  | 0 => Nat.le_refl _
  | n + 1 => by
    have := ordF_length f n
    simp only [ordF]
    split
    · exact Nat.le_trans (List.length_filter_le ..) (by omega)
    · simp; omega
theorem isNameC_of {s : List UInt8} (h : s.length ≤ 20) : isNameC [FD.str s] = true := by
  have : Nat.ble s.length 1000 = true := Nat.ble_eq ▸ (by omega)
  exact this

theorem mgt_0 (f : Nat → Nat → FD) (n : Nat) : mgt (stM f n (f n 1).s) [FD.str [], FD.bool false, FD.int .i64 0] 0 = .str (evS f n).1 := mgt_st f n _ 0
theorem mgt_2 (f : Nat → Nat → FD) (n : Nat) : mgt (stM f n (f n 1).s) [FD.str [], FD.bool false, FD.int .i64 0] 2 = .int .i64 (evS f n).2.2 := mgt_st f n _ 2
theorem evE_11 {f : Nat → Nat → FD} {n : Nat} (h : 0 ≤ (f n 0).i → 2 < (f n 0).i) : evE f n = 11 := by
  rw [evE, if_neg (fun h' => by have := h h'.1; omega)]
theorem evE_3 {f : Nat → Nat → FD} {n : Nat} (h : 0 ≤ (f n 0).i) (h' : (f n 0).i ≤ 2) (hb : nameB (f n 1).s = false) : evE f n = 3 := by
  rw [evE, if_pos ⟨h, h'⟩, if_neg (by rw [hb]; decide)]
theorem evE_strip {f : Nat → Nat → FD} {n : Nat} (h : (f n 0).i = 2) (hb : nameB (f n 1).s = true) : evE f n = if bytesEq (f n 2).s [] = true then (if bytesEq (evS f n).1 [] = true then 22 else if (evS f n).2.2 = 3 then 16 else 0) else 13 := by
  rw [evE, if_pos ⟨by omega, by omega⟩, if_pos hb, if_pos h]
theorem evE_coat {f : Nat → Nat → FD} {n : Nat} (h : 0 ≤ (f n 0).i) (h' : (f n 0).i ≤ 2) (h2 : ¬(f n 0).i = 2) (hb : nameB (f n 1).s = true) : evE f n = if nameB (f n 2).s = true then (if bytesEq (evS f n).1 [] = true then 0 else 22) else 3 := by
  rw [evE, if_pos ⟨h, h'⟩, if_pos hb, if_neg h2]
/-! ## slices.DeleteFunc with the closure of add -/
theorem delL_ord (l : List (List UInt8)) (p : List UInt8) : delL l.length (strR l) p = l.filter fun s => !bytesEq s p := by
  unfold delL
  congr 1
  unfold strL strR
  refine List.ext_getElem (by simp) fun i h1 h2 => ?_
  simp only [List.length_map, List.length_range] at h1
  simp [FD.s, h1]
def gsD : G2 := G2.setE gs3 158 delG
theorem gsD_ok : G2Ok gsD := G2Ok.setE gs3_ok (by kernel_rfl) delG_es
def followS : List PT := [.one (.list [.int .i64, .str, .str])]
def followC : List FD → Bool
  | [.list _ nh fh] => evsB nh fh
  | _ => false
def followL : List FD → List (Bool × NewP)
  | [.list _ nh fh] => [(Nat.beq nh 0, ⟨[(2, .one (.ptr (some (2, 0)))), (3, .one (.int .i64 (.tm 0))), (4, .one (.int .i64 (.tm 0)))], [(1, .map [.str, .bool, .int .i64] true (stM fh 0)), (2, .cells 196 2 [.map (some 1), .slice none 0 (.known 0)])], 3, .tup [(false, [.ptr (some (2, 0))]), (false, [.int .i64 (.tm 0)]), (false, [.int .i64 (.tm 0)])]⟩), (decide (folE nh fh = 0), ⟨[(2, .one (.ptr (some (2, 0)))), (3, .one (.int .i64 (.tm 0))), (4, .one (.int .i64 (.tm 0)))], [(1, .map [.str, .bool, .int .i64] true (stM fh nh)), (2, .cells 196 2 [.map (some 1), .own 3 (ordF fh nh).length]), (3, .row 9 [.str] (ordF fh nh).length (strR (ordF fh nh)))], 4, .tup [(false, [.ptr (some (2, 0))]), (false, [.int .i64 (.tm 0)]), (false, [.int .i64 (.tm 0)])]⟩)]
  | _ => []
def followP : List FD → NewP
  | [.list _ nh fh] => ⟨[(2, .one (.ptr none)), (3, .one (.int .i64 (.tm (folI nh fh)))), (4, .one (.int .i64 (.tm (folE nh fh))))], [], 1, .tup [(false, [.ptr none]), (false, [.int .i64 (.tm (folI nh fh))]), (false, [.int .i64 (.tm (folE nh fh))])]⟩
  | _ => ⟨[], [], 1, .undef⟩
def followI (nh : Nat) (fh : Nat → Nat → FD) : Nat → AFam := fun i => match i with | 5 => ⟨Nat, fun _ => [{ι := Nat, G := fun x => x = 0, μ := fun x => nh - x, tl := fun x => [(0, .one (.fz (.root 0 0) (FD.list [Sh.int IntKind.i64, Sh.str, Sh.str] nh fh))), (2, .one (.ptr none)), (3, .one (.int IntKind.i64 (.lit (0 : Int)))), (4, .one (.int IntKind.i64 (.lit (0 : Int)))), (5, .one (.ptr (some (2, 0)))), (12, .one (.ptr (some (2, 0)))), (13, .one (.fz (.root 0 0) (FD.list [Sh.int IntKind.i64, Sh.str, Sh.str] nh fh))), (14, .one (.int IntKind.i64 (.tm (Int.ofNat nh)))), (15, .one (.int IntKind.i64 (.tm (Int.ofNat x))))], bl := fun x => [(1, .map [Sh.str, Sh.bool, Sh.int IntKind.i64] true (fun (x : List UInt8) => none)), (2, .cells 196 2 [.map (some 1), .slice none 0 (.known 0)])], nx := (1 : Nat) + (1 : Nat) + (1 : Nat)}, {ι := Nat, G := fun x => (1 ≤ x ∧ x ≤ nh) ∧ firE (evE fh) x = 0, μ := fun x => nh - x, tl := fun x => [(0, .one (.fz (.root 0 0) (FD.list [Sh.int IntKind.i64, Sh.str, Sh.str] nh fh))), (2, .one (.ptr none)), (3, .one (.int IntKind.i64 (.lit (0 : Int)))), (4, .one (.int IntKind.i64 (.lit (0 : Int)))), (5, .one (.ptr (some (2, 0)))), (12, .one (.ptr (some (2, 0)))), (13, .one (.fz (.root 0 0) (FD.list [Sh.int IntKind.i64, Sh.str, Sh.str] nh fh))), (14, .one (.int IntKind.i64 (.tm (Int.ofNat nh)))), (15, .one (.int IntKind.i64 (.tm (Int.ofNat x))))], bl := fun x => [(1, .map [.str, .bool, .int .i64] true (stM fh x)), (2, .cells 196 2 [.map (some 1), .own 3 (ordF fh x).length]), (3, .row 9 [.str] (ordF fh x).length (strR (ordF fh x)))], nx := 4}]⟩ | _ => ⟨Nat, fun _ => []⟩
abbrev qfollow0 (nh : Nat) (fh : Nat → Nat → FD) (y1 : Nat) : Prop := ((((Nat.beq nh (0 : Nat)) = (true)) → (((true = true) ∧ (False ∧ ((((IntKind.i64) = (IntKind.i64)) ∧ (((0 : Int)) = (Int.ofNat y1))) ∧ ((((IntKind.i64) = (IntKind.i64)) ∧ (((0 : Int)) = ((22 : Int)))) ∧ True)))) ∧ (False ∧ (False ∧ True)))) ∧ (((Nat.beq nh (0 : Nat)) = (false)) → ((((decide (folE nh fh = (0 : Int))) = (true)) → (((true = true) ∧ (False ∧ ((((IntKind.i64) = (IntKind.i64)) ∧ (((0 : Int)) = (Int.ofNat y1))) ∧ ((((IntKind.i64) = (IntKind.i64)) ∧ (((0 : Int)) = ((22 : Int)))) ∧ True)))) ∧ (False ∧ (False ∧ (False ∧ True))))) ∧ (((decide (folE nh fh = (0 : Int))) = (false)) → (((true = true) ∧ (True ∧ ((((IntKind.i64) = (IntKind.i64)) ∧ ((folI nh fh) = (Int.ofNat y1))) ∧ ((((IntKind.i64) = (IntKind.i64)) ∧ ((folE nh fh) = ((22 : Int)))) ∧ True)))) ∧ True)))))
abbrev qfollow1 (nh : Nat) (fh : Nat → Nat → FD) (y1 : Nat) : Prop := ((((Nat.beq nh (0 : Nat)) = (true)) → (((true = true) ∧ (False ∧ ((((IntKind.i64) = (IntKind.i64)) ∧ (((0 : Int)) = (Int.ofNat y1))) ∧ ((((IntKind.i64) = (IntKind.i64)) ∧ (((0 : Int)) = ((3 : Int)))) ∧ True)))) ∧ (False ∧ (False ∧ True)))) ∧ (((Nat.beq nh (0 : Nat)) = (false)) → ((((decide (folE nh fh = (0 : Int))) = (true)) → (((true = true) ∧ (False ∧ ((((IntKind.i64) = (IntKind.i64)) ∧ (((0 : Int)) = (Int.ofNat y1))) ∧ ((((IntKind.i64) = (IntKind.i64)) ∧ (((0 : Int)) = ((3 : Int)))) ∧ True)))) ∧ (False ∧ (False ∧ (False ∧ True))))) ∧ (((decide (folE nh fh = (0 : Int))) = (false)) → (((true = true) ∧ (True ∧ ((((IntKind.i64) = (IntKind.i64)) ∧ ((folI nh fh) = (Int.ofNat y1))) ∧ ((((IntKind.i64) = (IntKind.i64)) ∧ ((folE nh fh) = ((3 : Int)))) ∧ True)))) ∧ True)))))
abbrev qfollow2 (nh : Nat) (fh : Nat → Nat → FD) : Prop := (((Ref.root (0) (0)) = (Ref.root (0) (0))) ∧ (((FD.list [Sh.int IntKind.i64, Sh.str, Sh.str] nh fh) = (FD.list [Sh.int IntKind.i64, Sh.str, Sh.str] nh fh)) ∧ (true = true)))
abbrev qfollow3 (nh : Nat) (fh : Nat → Nat → FD) (y1 : Nat) : Prop := (((decide ((0 : Int) ≤ FD.i (fh (Int.toNat (Int.ofNat y1)) (0 : Nat))) && decide (FD.i (fh (Int.toNat (Int.ofNat y1)) (0 : Nat)) ≤ (2 : Int))) = (false)) → ((((Nat.beq nh (0 : Nat)) = (true)) → (((true = true) ∧ (False ∧ ((((IntKind.i64) = (IntKind.i64)) ∧ (((0 : Int)) = (Int.ofNat y1))) ∧ ((((IntKind.i64) = (IntKind.i64)) ∧ (((0 : Int)) = ((11 : Int)))) ∧ True)))) ∧ (False ∧ (False ∧ True)))) ∧ (((Nat.beq nh (0 : Nat)) = (false)) → ((((decide (folE nh fh = (0 : Int))) = (true)) → (((true = true) ∧ (False ∧ ((((IntKind.i64) = (IntKind.i64)) ∧ (((0 : Int)) = (Int.ofNat y1))) ∧ ((((IntKind.i64) = (IntKind.i64)) ∧ (((0 : Int)) = ((11 : Int)))) ∧ True)))) ∧ (False ∧ (False ∧ (False ∧ True))))) ∧ (((decide (folE nh fh = (0 : Int))) = (false)) → (((true = true) ∧ (True ∧ ((((IntKind.i64) = (IntKind.i64)) ∧ ((folI nh fh) = (Int.ofNat y1))) ∧ ((((IntKind.i64) = (IntKind.i64)) ∧ ((folE nh fh) = ((11 : Int)))) ∧ True)))) ∧ True))))))
abbrev qfollow4 (nh : Nat) (fh : Nat → Nat → FD) (y1 : Nat) : Prop := (((!bytesEq (FD.s (fh (Int.toNat (Int.ofNat y1)) ((0 : Nat) + (1 : Nat) + (1 : Nat)))) (Array.toList (ByteArray.data { data := #[] }))) = (true)) → ((((Nat.beq nh (0 : Nat)) = (true)) → (((true = true) ∧ (False ∧ ((((IntKind.i64) = (IntKind.i64)) ∧ (((0 : Int)) = (Int.ofNat y1))) ∧ ((((IntKind.i64) = (IntKind.i64)) ∧ (((0 : Int)) = ((13 : Int)))) ∧ True)))) ∧ (False ∧ (False ∧ True)))) ∧ (((Nat.beq nh (0 : Nat)) = (false)) → ((((decide (folE nh fh = (0 : Int))) = (true)) → (((true = true) ∧ (False ∧ ((((IntKind.i64) = (IntKind.i64)) ∧ (((0 : Int)) = (Int.ofNat y1))) ∧ ((((IntKind.i64) = (IntKind.i64)) ∧ (((0 : Int)) = ((13 : Int)))) ∧ True)))) ∧ (False ∧ (False ∧ (False ∧ True))))) ∧ (((decide (folE nh fh = (0 : Int))) = (false)) → (((true = true) ∧ (True ∧ ((((IntKind.i64) = (IntKind.i64)) ∧ ((folI nh fh) = (Int.ofNat y1))) ∧ ((((IntKind.i64) = (IntKind.i64)) ∧ ((folE nh fh) = ((13 : Int)))) ∧ True)))) ∧ True))))))
abbrev qfollow5 (nh : Nat) (fh : Nat → Nat → FD) (y1 : Nat) : Prop := ((((Nat.beq nh (0 : Nat)) = (true)) → (((true = true) ∧ (False ∧ ((((IntKind.i64) = (IntKind.i64)) ∧ (((0 : Int)) = (Int.ofNat y1))) ∧ ((((IntKind.i64) = (IntKind.i64)) ∧ (((0 : Int)) = ((16 : Int)))) ∧ True)))) ∧ (False ∧ (False ∧ True)))) ∧ (((Nat.beq nh (0 : Nat)) = (false)) → ((((decide (folE nh fh = (0 : Int))) = (true)) → (((true = true) ∧ (False ∧ ((((IntKind.i64) = (IntKind.i64)) ∧ (((0 : Int)) = (Int.ofNat y1))) ∧ ((((IntKind.i64) = (IntKind.i64)) ∧ (((0 : Int)) = ((16 : Int)))) ∧ True)))) ∧ (False ∧ (False ∧ (False ∧ True))))) ∧ (((decide (folE nh fh = (0 : Int))) = (false)) → (((true = true) ∧ (True ∧ ((((IntKind.i64) = (IntKind.i64)) ∧ ((folI nh fh) = (Int.ofNat y1))) ∧ ((((IntKind.i64) = (IntKind.i64)) ∧ ((folE nh fh) = ((16 : Int)))) ∧ True)))) ∧ True)))))
abbrev qfollow6 (nh : Nat) (fh : Nat → Nat → FD) (y1 : Nat) : Prop := ((true = true) ∧ ((qfollow2 nh fh) ∧ (True ∧ ((((IntKind.i64) = (IntKind.i64)) ∧ (((0 : Int)) = ((0 : Int)))) ∧ ((((IntKind.i64) = (IntKind.i64)) ∧ (((0 : Int)) = ((0 : Int)))) ∧ ((((2, 2) ∈ ([(1, 1), (2, 2), (0, 0)] : List (Nat × Nat))) ∧ ((0) = (0))) ∧ ((((2, 2) ∈ ([(1, 1), (2, 2), (0, 0)] : List (Nat × Nat))) ∧ ((0) = (0))) ∧ ((qfollow2 nh fh) ∧ ((((IntKind.i64) = (IntKind.i64)) ∧ ((Int.ofNat nh) = (Int.ofNat nh))) ∧ ((((IntKind.i64) = (IntKind.i64)) ∧ ((Int.ofNat y1) = ((0 : Int)))) ∧ True))))))))))
abbrev qfollow7  : Prop := ((true = true) ∧ ((((2, 2) ∈ ([(1, 1), (2, 2), (0, 0)] : List (Nat × Nat))) ∧ ((0) = (0))) ∧ ((((IntKind.i64) = (IntKind.i64)) ∧ (((0 : Int)) = ((0 : Int)))) ∧ ((((IntKind.i64) = (IntKind.i64)) ∧ (((0 : Int)) = ((0 : Int)))) ∧ True))))
theorem follow_ok : NewOk (mkR smLa gsD) Try.prog η0 132 (FI.of Try.f132 false) followS followC followL followP := by
  refine newOk_of smLa_ok gsD_ok Try.fok132 (fun fds => match fds with | [.list _ nh fh] => followI nh fh | _ => alts fun _ => []) ?_
  intro fds hf hc
  obtain ⟨nh, fh, ds0, rfl, gh, hf1⟩ := hf.list
  obtain rfl := hf1.nil
  have hc : (evsB nh fh) = true := hc
  have hvc : (vcN smLa gsD (FI.of Try.f132 false) followS (followI nh fh) [.list [.int .i64, .str, .str] nh fh] (followL [.list [.int .i64, .str, .str] nh fh]) (followP [.list [.int .i64, .str, .str] nh fh])) =
    ((true = true) ∧ ((((decide ((100 : Int) < Int.ofNat nh)) = (true)) → ((((Nat.beq nh (0 : Nat)) = (true)) → (((true = true) ∧ (False ∧ ((((IntKind.i64) = (IntKind.i64)) ∧ (((0 : Int)) = ((0 : Int)))) ∧ ((((IntKind.i64) = (IntKind.i64)) ∧ (((0 : Int)) = ((8 : Int)))) ∧ True)))) ∧ (False ∧ (False ∧ True)))) ∧ (((Nat.beq nh (0 : Nat)) = (false)) → ((((decide (folE nh fh = (0 : Int))) = (true)) → (((true = true) ∧ (False ∧ ((((IntKind.i64) = (IntKind.i64)) ∧ (((0 : Int)) = ((0 : Int)))) ∧ ((((IntKind.i64) = (IntKind.i64)) ∧ (((0 : Int)) = ((8 : Int)))) ∧ True)))) ∧ (False ∧ (False ∧ (False ∧ True))))) ∧ (((decide (folE nh fh = (0 : Int))) = (false)) → (((true = true) ∧ (True ∧ ((((IntKind.i64) = (IntKind.i64)) ∧ ((folI nh fh) = ((0 : Int)))) ∧ ((((IntKind.i64) = (IntKind.i64)) ∧ ((folE nh fh) = ((8 : Int)))) ∧ True)))) ∧ True)))))) ∧ (((decide ((100 : Int) < Int.ofNat nh)) = (false)) → (∃ y0 : Nat, (((∃ y1 : Nat, ((((y1) = (0)) ∧ True) ∧ ((qfollow6 nh fh y1) ∧ (((([Sh.str, Sh.bool, Sh.int IntKind.i64]) = ([Sh.str, Sh.bool, Sh.int IntKind.i64])) ∧ ((true = true) ∧ (∀ y2 : List UInt8, ((none : Option (List FD)) = (none))))) ∧ (((((196 : TypeId)) = ((196 : Nat))) ∧ (((2) = (2)) ∧ (((1, 1) ∈ ([(1, 1), (2, 2), (0, 0)] : List (Nat × Nat))) ∧ ((((0) = (0)) ∧ ((0) = (0))) ∧ True)))) ∧ True))))) ∨ (∃ y1 : Nat, (((((1 : Nat) ≤ y1 ∧ y1 ≤ nh) ∧ ((firE (evE fh) y1) = ((0 : Int)))) ∧ True) ∧ ((qfollow6 nh fh y1) ∧ (((([Sh.str, Sh.bool, Sh.int IntKind.i64]) = ([Sh.str, Sh.bool, Sh.int IntKind.i64])) ∧ ((true = true) ∧ (∀ y2 : List UInt8, ((stM fh y1 y2 : Option (List FD)) = (none))))) ∧ (((((196 : TypeId)) = ((196 : Nat))) ∧ (((2) = (2)) ∧ (((1, 1) ∈ ([(1, 1), (2, 2), (0, 0)] : List (Nat × Nat))) ∧ (False ∧ True)))) ∧ (False ∧ True))))))) ∧ ((∀ y1 : Nat, (((y1) = (0)) → ((((decide (Int.ofNat y1 < Int.ofNat nh)) = (true)) → ((((decide ((0 : Int) ≤ Int.ofNat y1) && decide (Int.ofNat y1 < (↑nh : Int))) = (true)) → (((true = true) → ((((decide ((0 : Int) ≤ FD.i (fh (Int.toNat (Int.ofNat y1)) (0 : Nat))) && decide (FD.i (fh (Int.toNat (Int.ofNat y1)) (0 : Nat)) ≤ (2 : Int))) = (true)) → ((((isNameC [FD.str (FD.s (fh (Int.toNat (Int.ofNat y1)) ((0 : Nat) + (1 : Nat))))]) = (true)) → ((((nameB (FD.s (fh (Int.toNat (Int.ofNat y1)) ((0 : Nat) + (1 : Nat))))) = (true)) → ((((decide (FD.i (fh (Int.toNat (Int.ofNat y1)) (0 : Nat)) = (2 : Int))) = (true)) → ((qfollow4 nh fh y1) ∧ (((!bytesEq (FD.s (fh (Int.toNat (Int.ofNat y1)) ((0 : Nat) + (1 : Nat) + (1 : Nat)))) (Array.toList (ByteArray.data { data := #[] }))) = (false)) → (((true = true) → (qfollow0 nh fh y1)) ∧ ((true = false) → (((false = true) → (qfollow5 nh fh y1)) ∧ ((false = false) → False))))))) ∧ (((decide (FD.i (fh (Int.toNat (Int.ofNat y1)) (0 : Nat)) = (2 : Int))) = (false)) → ((((isNameC [FD.str (FD.s (fh (Int.toNat (Int.ofNat y1)) ((0 : Nat) + (1 : Nat) + (1 : Nat))))]) = (true)) → ((((nameB (FD.s (fh (Int.toNat (Int.ofNat y1)) ((0 : Nat) + (1 : Nat) + (1 : Nat))))) = (true)) → (((false = true) → (qfollow0 nh fh y1)) ∧ ((false = false) → (((true = true) → ((∃ y2 : Nat, ((((y2) = (0)) ∧ nh - y2 < nh - y1) ∧ (((true = true) ∧ ((qfollow2 nh fh) ∧ (True ∧ ((((IntKind.i64) = (IntKind.i64)) ∧ (((0 : Int)) = ((0 : Int)))) ∧ ((((IntKind.i64) = (IntKind.i64)) ∧ (((0 : Int)) = ((0 : Int)))) ∧ ((((2, 2) ∈ ([(1, 1), (2, 2), (0, 0)] : List (Nat × Nat))) ∧ ((0) = (0))) ∧ ((((2, 2) ∈ ([(1, 1), (2, 2), (0, 0)] : List (Nat × Nat))) ∧ ((0) = (0))) ∧ ((qfollow2 nh fh) ∧ ((((IntKind.i64) = (IntKind.i64)) ∧ ((Int.ofNat nh) = (Int.ofNat nh))) ∧ ((((IntKind.i64) = (IntKind.i64)) ∧ ((Int.ofNat y2) = (IntKind.wrap IntKind.i64 (Int.ofNat y1 + (1 : Int))))) ∧ True)))))))))) ∧ (((([Sh.str, Sh.bool, Sh.int IntKind.i64]) = ([Sh.str, Sh.bool, Sh.int IntKind.i64])) ∧ ((true = true) ∧ (∀ y3 : List UInt8, ((none : Option (List FD)) = (if y3 = FD.s (fh (Int.toNat (Int.ofNat y1)) ((0 : Nat) + (1 : Nat))) then some [FD.str (FD.s (fh (Int.toNat (Int.ofNat y1)) ((0 : Nat) + (1 : Nat) + (1 : Nat)))), FD.bool (decide (FD.i (fh (Int.toNat (Int.ofNat y1)) (0 : Nat)) = (1 : Int))), FD.int IntKind.i64 (0 : Int)] else none))))) ∧ (((((196 : TypeId)) = ((196 : TypeId))) ∧ (((2) = (2)) ∧ (((1, 1) ∈ ([(1, 1), (2, 2), (0, 0)] : List (Nat × Nat))) ∧ (False ∧ True)))) ∧ True))))) ∨ (∃ y2 : Nat, (((((1 : Nat) ≤ y2 ∧ y2 ≤ nh) ∧ ((firE (evE fh) y2) = ((0 : Int)))) ∧ nh - y2 < nh - y1) ∧ (((true = true) ∧ ((qfollow2 nh fh) ∧ (True ∧ ((((IntKind.i64) = (IntKind.i64)) ∧ (((0 : Int)) = ((0 : Int)))) ∧ ((((IntKind.i64) = (IntKind.i64)) ∧ (((0 : Int)) = ((0 : Int)))) ∧ ((((2, 2) ∈ ([(3, 30), (1, 1), (2, 2), (0, 0)] : List (Nat × Nat))) ∧ ((0) = (0))) ∧ ((((2, 2) ∈ ([(3, 30), (1, 1), (2, 2), (0, 0)] : List (Nat × Nat))) ∧ ((0) = (0))) ∧ ((qfollow2 nh fh) ∧ ((((IntKind.i64) = (IntKind.i64)) ∧ ((Int.ofNat nh) = (Int.ofNat nh))) ∧ ((((IntKind.i64) = (IntKind.i64)) ∧ ((Int.ofNat y2) = (IntKind.wrap IntKind.i64 (Int.ofNat y1 + (1 : Int))))) ∧ True)))))))))) ∧ (((([Sh.str, Sh.bool, Sh.int IntKind.i64]) = ([Sh.str, Sh.bool, Sh.int IntKind.i64])) ∧ ((true = true) ∧ (∀ y3 : List UInt8, ((stM fh y2 y3 : Option (List FD)) = (if y3 = FD.s (fh (Int.toNat (Int.ofNat y1)) ((0 : Nat) + (1 : Nat))) then some [FD.str (FD.s (fh (Int.toNat (Int.ofNat y1)) ((0 : Nat) + (1 : Nat) + (1 : Nat)))), FD.bool (decide (FD.i (fh (Int.toNat (Int.ofNat y1)) (0 : Nat)) = (1 : Int))), FD.int IntKind.i64 (0 : Int)] else none))))) ∧ (((((196 : TypeId)) = ((196 : TypeId))) ∧ (((2) = (2)) ∧ (((1, 1) ∈ ([(3, 30), (1, 1), (2, 2), (0, 0)] : List (Nat × Nat))) ∧ ((((3, 30) ∈ ([(3, 30), (1, 1), (2, 2), (0, 0)] : List (Nat × Nat))) ∧ ((List.length (ordF fh y2)) = (1))) ∧ True)))) ∧ (((((9 : TypeId)) = ((9 : TypeId))) ∧ ((([Sh.str]) = ([Sh.str])) ∧ (((List.length (ordF fh y2)) = (1)) ∧ (∀ y3 : Nat, (y3 < List.length (ordF fh y2) → (∀ y4 : Nat, (y4 < List.length [Sh.str] → ((strR (ordF fh y2) y3 y4) = (atFD [FD.str (FD.s (fh (Int.toNat (Int.ofNat y1)) ((0 : Nat) + (1 : Nat))))] y4))))))))) ∧ True)))))))) ∧ ((true = false) → False))))) ∧ (((nameB (FD.s (fh (Int.toNat (Int.ofNat y1)) ((0 : Nat) + (1 : Nat) + (1 : Nat))))) = (false)) → (qfollow1 nh fh y1)))) ∧ (((isNameC [FD.str (FD.s (fh (Int.toNat (Int.ofNat y1)) ((0 : Nat) + (1 : Nat) + (1 : Nat))))]) = (false)) → False))))) ∧ (((nameB (FD.s (fh (Int.toNat (Int.ofNat y1)) ((0 : Nat) + (1 : Nat))))) = (false)) → (qfollow1 nh fh y1)))) ∧ (((isNameC [FD.str (FD.s (fh (Int.toNat (Int.ofNat y1)) ((0 : Nat) + (1 : Nat))))]) = (false)) → False))) ∧ (qfollow3 nh fh y1))) ∧ ((true = false) → False))) ∧ (((decide ((0 : Int) ≤ Int.ofNat y1) && decide (Int.ofNat y1 < (↑nh : Int))) = (false)) → False))) ∧ (((decide (Int.ofNat y1 < Int.ofNat nh)) = (false)) → ((((Nat.beq nh (0 : Nat)) = (true)) → ((qfollow7) ∧ (((([Sh.str, Sh.bool, Sh.int IntKind.i64]) = ([Sh.str, Sh.bool, Sh.int IntKind.i64])) ∧ ((true = true) ∧ (∀ y2 : List UInt8, ((stM fh (0 : Nat) y2 : Option (List FD)) = (none))))) ∧ (((((196 : TypeId)) = ((196 : TypeId))) ∧ (((2) = (2)) ∧ (((1, 1) ∈ ([(1, 1), (2, 2), (0, 0)] : List (Nat × Nat))) ∧ ((((0) = (0)) ∧ ((0) = (0))) ∧ True)))) ∧ True)))) ∧ (((Nat.beq nh (0 : Nat)) = (false)) → ((((decide (folE nh fh = (0 : Int))) = (true)) → ((qfollow7) ∧ (((([Sh.str, Sh.bool, Sh.int IntKind.i64]) = ([Sh.str, Sh.bool, Sh.int IntKind.i64])) ∧ ((true = true) ∧ (∀ y2 : List UInt8, ((stM fh nh y2 : Option (List FD)) = (none))))) ∧ (((((196 : TypeId)) = ((196 : TypeId))) ∧ (((2) = (2)) ∧ (((1, 1) ∈ ([(1, 1), (2, 2), (0, 0)] : List (Nat × Nat))) ∧ (False ∧ True)))) ∧ (False ∧ True))))) ∧ (((decide (folE nh fh = (0 : Int))) = (false)) → (((true = true) ∧ (False ∧ ((((IntKind.i64) = (IntKind.i64)) ∧ ((folI nh fh) = ((0 : Int)))) ∧ ((((IntKind.i64) = (IntKind.i64)) ∧ ((folE nh fh) = ((0 : Int)))) ∧ True)))) ∧ True))))))))) ∧ (∀ y1 : Nat, ((((1 : Nat) ≤ y1 ∧ y1 ≤ nh) ∧ ((firE (evE fh) y1) = ((0 : Int)))) → ((((decide (Int.ofNat y1 < Int.ofNat nh)) = (true)) → ((((decide ((0 : Int) ≤ Int.ofNat y1) && decide (Int.ofNat y1 < (↑nh : Int))) = (true)) → (((true = true) → ((((decide ((0 : Int) ≤ FD.i (fh (Int.toNat (Int.ofNat y1)) (0 : Nat))) && decide (FD.i (fh (Int.toNat (Int.ofNat y1)) (0 : Nat)) ≤ (2 : Int))) = (true)) → ((((isNameC [FD.str (FD.s (fh (Int.toNat (Int.ofNat y1)) ((0 : Nat) + (1 : Nat))))]) = (true)) → ((((nameB (FD.s (fh (Int.toNat (Int.ofNat y1)) ((0 : Nat) + (1 : Nat))))) = (true)) → ((((decide (FD.i (fh (Int.toNat (Int.ofNat y1)) (0 : Nat)) = (2 : Int))) = (true)) → ((qfollow4 nh fh y1) ∧ (((!bytesEq (FD.s (fh (Int.toNat (Int.ofNat y1)) ((0 : Nat) + (1 : Nat) + (1 : Nat)))) (Array.toList (ByteArray.data { data := #[] }))) = (false)) → ((((bytesEq (FD.s (mgt (stM fh y1 (FD.s (fh (Int.toNat (Int.ofNat y1)) ((0 : Nat) + (1 : Nat))))) [FD.str [], FD.bool false, FD.int IntKind.i64 (0 : Int)] (0 : Nat))) (Array.toList (ByteArray.data { data := #[] }))) = (true)) → (qfollow0 nh fh y1)) ∧ (((bytesEq (FD.s (mgt (stM fh y1 (FD.s (fh (Int.toNat (Int.ofNat y1)) ((0 : Nat) + (1 : Nat))))) [FD.str [], FD.bool false, FD.int IntKind.i64 (0 : Int)] (0 : Nat))) (Array.toList (ByteArray.data { data := #[] }))) = (false)) → ((((decide (FD.i (mgt (stM fh y1 (FD.s (fh (Int.toNat (Int.ofNat y1)) ((0 : Nat) + (1 : Nat))))) [FD.str [], FD.bool false, FD.int IntKind.i64 (0 : Int)] ((0 : Nat) + (1 : Nat) + (1 : Nat))) = (3 : Int))) = (true)) → (qfollow5 nh fh y1)) ∧ (((decide (FD.i (mgt (stM fh y1 (FD.s (fh (Int.toNat (Int.ofNat y1)) ((0 : Nat) + (1 : Nat))))) [FD.str [], FD.bool false, FD.int IntKind.i64 (0 : Int)] ((0 : Nat) + (1 : Nat) + (1 : Nat))) = (3 : Int))) = (false)) → ((((Nat.beq (List.length (ordF fh y1)) (List.length (ordF fh y1)) && Nat.ble (1 : Nat) (3 : Nat)) = (true)) → ((∃ y2 : Nat, ((((y2) = (0)) ∧ nh - y2 < nh - y1) ∧ (((true = true) ∧ ((qfollow2 nh fh) ∧ (True ∧ ((((IntKind.i64) = (IntKind.i64)) ∧ (((0 : Int)) = ((0 : Int)))) ∧ ((((IntKind.i64) = (IntKind.i64)) ∧ (((0 : Int)) = ((0 : Int)))) ∧ ((((2, 2) ∈ ([(1, 1), (2, 2), (0, 0)] : List (Nat × Nat))) ∧ ((0) = (0))) ∧ ((((2, 2) ∈ ([(1, 1), (2, 2), (0, 0)] : List (Nat × Nat))) ∧ ((0) = (0))) ∧ ((qfollow2 nh fh) ∧ ((((IntKind.i64) = (IntKind.i64)) ∧ ((Int.ofNat nh) = (Int.ofNat nh))) ∧ ((((IntKind.i64) = (IntKind.i64)) ∧ ((Int.ofNat y2) = (IntKind.wrap IntKind.i64 (Int.ofNat y1 + (1 : Int))))) ∧ True)))))))))) ∧ (((([Sh.str, Sh.bool, Sh.int IntKind.i64]) = ([Sh.str, Sh.bool, Sh.int IntKind.i64])) ∧ ((true = true) ∧ (∀ y3 : List UInt8, ((none : Option (List FD)) = (if y3 = FD.s (fh (Int.toNat (Int.ofNat y1)) ((0 : Nat) + (1 : Nat))) then some [FD.str [], FD.bool false, FD.int IntKind.i64 (IntKind.wrap IntKind.i64 (FD.i (mgt (stM fh y1 (FD.s (fh (Int.toNat (Int.ofNat y1)) ((0 : Nat) + (1 : Nat))))) [FD.str [], FD.bool false, FD.int IntKind.i64 (0 : Int)] ((0 : Nat) + (1 : Nat) + (1 : Nat))) + (1 : Int)))] else stM fh y1 y3))))) ∧ (((((196 : TypeId)) = ((196 : TypeId))) ∧ (((2) = (2)) ∧ (((1, 1) ∈ ([(1, 1), (2, 2), (0, 0)] : List (Nat × Nat))) ∧ (False ∧ True)))) ∧ True))))) ∨ (∃ y2 : Nat, (((((1 : Nat) ≤ y2 ∧ y2 ≤ nh) ∧ ((firE (evE fh) y2) = ((0 : Int)))) ∧ nh - y2 < nh - y1) ∧ (((true = true) ∧ ((qfollow2 nh fh) ∧ (True ∧ ((((IntKind.i64) = (IntKind.i64)) ∧ (((0 : Int)) = ((0 : Int)))) ∧ ((((IntKind.i64) = (IntKind.i64)) ∧ (((0 : Int)) = ((0 : Int)))) ∧ ((((2, 2) ∈ ([(3, 3), (1, 1), (2, 2), (0, 0)] : List (Nat × Nat))) ∧ ((0) = (0))) ∧ ((((2, 2) ∈ ([(3, 3), (1, 1), (2, 2), (0, 0)] : List (Nat × Nat))) ∧ ((0) = (0))) ∧ ((qfollow2 nh fh) ∧ ((((IntKind.i64) = (IntKind.i64)) ∧ ((Int.ofNat nh) = (Int.ofNat nh))) ∧ ((((IntKind.i64) = (IntKind.i64)) ∧ ((Int.ofNat y2) = (IntKind.wrap IntKind.i64 (Int.ofNat y1 + (1 : Int))))) ∧ True)))))))))) ∧ (((([Sh.str, Sh.bool, Sh.int IntKind.i64]) = ([Sh.str, Sh.bool, Sh.int IntKind.i64])) ∧ ((true = true) ∧ (∀ y3 : List UInt8, ((stM fh y2 y3 : Option (List FD)) = (if y3 = FD.s (fh (Int.toNat (Int.ofNat y1)) ((0 : Nat) + (1 : Nat))) then some [FD.str [], FD.bool false, FD.int IntKind.i64 (IntKind.wrap IntKind.i64 (FD.i (mgt (stM fh y1 (FD.s (fh (Int.toNat (Int.ofNat y1)) ((0 : Nat) + (1 : Nat))))) [FD.str [], FD.bool false, FD.int IntKind.i64 (0 : Int)] ((0 : Nat) + (1 : Nat) + (1 : Nat))) + (1 : Int)))] else stM fh y1 y3))))) ∧ (((((196 : TypeId)) = ((196 : TypeId))) ∧ (((2) = (2)) ∧ (((1, 1) ∈ ([(3, 3), (1, 1), (2, 2), (0, 0)] : List (Nat × Nat))) ∧ ((((3, 3) ∈ ([(3, 3), (1, 1), (2, 2), (0, 0)] : List (Nat × Nat))) ∧ ((List.length (ordF fh y2)) = (List.length (delL (List.length (ordF fh y1)) (strR (ordF fh y1)) (FD.s (fh (Int.toNat (Int.ofNat y1)) ((0 : Nat) + (1 : Nat)))))))) ∧ True)))) ∧ (((((9 : TypeId)) = ((9 : TypeId))) ∧ ((([Sh.str]) = ([Sh.str])) ∧ (((List.length (ordF fh y2)) = (List.length (delL (List.length (ordF fh y1)) (strR (ordF fh y1)) (FD.s (fh (Int.toNat (Int.ofNat y1)) ((0 : Nat) + (1 : Nat))))))) ∧ (∀ y3 : Nat, (y3 < List.length (ordF fh y2) → (∀ y4 : Nat, (y4 < List.length [Sh.str] → ((strR (ordF fh y2) y3 y4) = (strR (delL (List.length (ordF fh y1)) (strR (ordF fh y1)) (FD.s (fh (Int.toNat (Int.ofNat y1)) ((0 : Nat) + (1 : Nat))))) y3 y4))))))))) ∧ True)))))))) ∧ (((Nat.beq (List.length (ordF fh y1)) (List.length (ordF fh y1)) && Nat.ble (1 : Nat) (3 : Nat)) = (false)) → False))))))))) ∧ (((decide (FD.i (fh (Int.toNat (Int.ofNat y1)) (0 : Nat)) = (2 : Int))) = (false)) → ((((isNameC [FD.str (FD.s (fh (Int.toNat (Int.ofNat y1)) ((0 : Nat) + (1 : Nat) + (1 : Nat))))]) = (true)) → ((((nameB (FD.s (fh (Int.toNat (Int.ofNat y1)) ((0 : Nat) + (1 : Nat) + (1 : Nat))))) = (true)) → ((((!bytesEq (FD.s (mgt (stM fh y1 (FD.s (fh (Int.toNat (Int.ofNat y1)) ((0 : Nat) + (1 : Nat))))) [FD.str [], FD.bool false, FD.int IntKind.i64 (0 : Int)] (0 : Nat))) (Array.toList (ByteArray.data { data := #[] }))) = (true)) → (qfollow0 nh fh y1)) ∧ (((!bytesEq (FD.s (mgt (stM fh y1 (FD.s (fh (Int.toNat (Int.ofNat y1)) ((0 : Nat) + (1 : Nat))))) [FD.str [], FD.bool false, FD.int IntKind.i64 (0 : Int)] (0 : Nat))) (Array.toList (ByteArray.data { data := #[] }))) = (false)) → ((((Nat.beq (List.length (ordF fh y1)) (List.length (ordF fh y1)) && (true && Nat.ble (List.length (ordF fh y1) + (1 : Nat)) (1000000 : Nat))) = (true)) → ((∃ y2 : Nat, ((((y2) = (0)) ∧ nh - y2 < nh - y1) ∧ (((true = true) ∧ ((qfollow2 nh fh) ∧ (True ∧ ((((IntKind.i64) = (IntKind.i64)) ∧ (((0 : Int)) = ((0 : Int)))) ∧ ((((IntKind.i64) = (IntKind.i64)) ∧ (((0 : Int)) = ((0 : Int)))) ∧ ((((2, 2) ∈ ([(1, 1), (2, 2), (0, 0)] : List (Nat × Nat))) ∧ ((0) = (0))) ∧ ((((2, 2) ∈ ([(1, 1), (2, 2), (0, 0)] : List (Nat × Nat))) ∧ ((0) = (0))) ∧ ((qfollow2 nh fh) ∧ ((((IntKind.i64) = (IntKind.i64)) ∧ ((Int.ofNat nh) = (Int.ofNat nh))) ∧ ((((IntKind.i64) = (IntKind.i64)) ∧ ((Int.ofNat y2) = (IntKind.wrap IntKind.i64 (Int.ofNat y1 + (1 : Int))))) ∧ True)))))))))) ∧ (((([Sh.str, Sh.bool, Sh.int IntKind.i64]) = ([Sh.str, Sh.bool, Sh.int IntKind.i64])) ∧ ((true = true) ∧ (∀ y3 : List UInt8, ((none : Option (List FD)) = (if y3 = FD.s (fh (Int.toNat (Int.ofNat y1)) ((0 : Nat) + (1 : Nat))) then some [FD.str (FD.s (fh (Int.toNat (Int.ofNat y1)) ((0 : Nat) + (1 : Nat) + (1 : Nat)))), FD.bool (decide (FD.i (fh (Int.toNat (Int.ofNat y1)) (0 : Nat)) = (1 : Int))), FD.int IntKind.i64 (FD.i (mgt (stM fh y1 (FD.s (fh (Int.toNat (Int.ofNat y1)) ((0 : Nat) + (1 : Nat))))) [FD.str [], FD.bool false, FD.int IntKind.i64 (0 : Int)] ((0 : Nat) + (1 : Nat) + (1 : Nat))))] else stM fh y1 y3))))) ∧ (((((196 : TypeId)) = ((196 : TypeId))) ∧ (((2) = (2)) ∧ (((1, 1) ∈ ([(1, 1), (2, 2), (0, 0)] : List (Nat × Nat))) ∧ (False ∧ True)))) ∧ True))))) ∨ (∃ y2 : Nat, (((((1 : Nat) ≤ y2 ∧ y2 ≤ nh) ∧ ((firE (evE fh) y2) = ((0 : Int)))) ∧ nh - y2 < nh - y1) ∧ (((true = true) ∧ ((qfollow2 nh fh) ∧ (True ∧ ((((IntKind.i64) = (IntKind.i64)) ∧ (((0 : Int)) = ((0 : Int)))) ∧ ((((IntKind.i64) = (IntKind.i64)) ∧ (((0 : Int)) = ((0 : Int)))) ∧ ((((2, 2) ∈ ([(3, 31), (1, 1), (2, 2), (0, 0)] : List (Nat × Nat))) ∧ ((0) = (0))) ∧ ((((2, 2) ∈ ([(3, 31), (1, 1), (2, 2), (0, 0)] : List (Nat × Nat))) ∧ ((0) = (0))) ∧ ((qfollow2 nh fh) ∧ ((((IntKind.i64) = (IntKind.i64)) ∧ ((Int.ofNat nh) = (Int.ofNat nh))) ∧ ((((IntKind.i64) = (IntKind.i64)) ∧ ((Int.ofNat y2) = (IntKind.wrap IntKind.i64 (Int.ofNat y1 + (1 : Int))))) ∧ True)))))))))) ∧ (((([Sh.str, Sh.bool, Sh.int IntKind.i64]) = ([Sh.str, Sh.bool, Sh.int IntKind.i64])) ∧ ((true = true) ∧ (∀ y3 : List UInt8, ((stM fh y2 y3 : Option (List FD)) = (if y3 = FD.s (fh (Int.toNat (Int.ofNat y1)) ((0 : Nat) + (1 : Nat))) then some [FD.str (FD.s (fh (Int.toNat (Int.ofNat y1)) ((0 : Nat) + (1 : Nat) + (1 : Nat)))), FD.bool (decide (FD.i (fh (Int.toNat (Int.ofNat y1)) (0 : Nat)) = (1 : Int))), FD.int IntKind.i64 (FD.i (mgt (stM fh y1 (FD.s (fh (Int.toNat (Int.ofNat y1)) ((0 : Nat) + (1 : Nat))))) [FD.str [], FD.bool false, FD.int IntKind.i64 (0 : Int)] ((0 : Nat) + (1 : Nat) + (1 : Nat))))] else stM fh y1 y3))))) ∧ (((((196 : TypeId)) = ((196 : TypeId))) ∧ (((2) = (2)) ∧ (((1, 1) ∈ ([(3, 31), (1, 1), (2, 2), (0, 0)] : List (Nat × Nat))) ∧ ((((3, 31) ∈ ([(3, 31), (1, 1), (2, 2), (0, 0)] : List (Nat × Nat))) ∧ ((List.length (ordF fh y2)) = (List.length (ordF fh y1) + (1 : Nat)))) ∧ True)))) ∧ (((((9 : TypeId)) = ((9 : TypeId))) ∧ ((([Sh.str]) = ([Sh.str])) ∧ (((List.length (ordF fh y2)) = (List.length (ordF fh y1) + (1 : Nat))) ∧ (∀ y3 : Nat, (y3 < List.length (ordF fh y2) → (∀ y4 : Nat, (y4 < List.length [Sh.str] → ((strR (ordF fh y2) y3 y4) = (bif Nat.blt y3 (List.length (ordF fh y1)) then strR (ordF fh y1) y3 y4 else atFD [FD.str (FD.s (fh (Int.toNat (Int.ofNat y1)) ((0 : Nat) + (1 : Nat))))] y4))))))))) ∧ True)))))))) ∧ (((Nat.beq (List.length (ordF fh y1)) (List.length (ordF fh y1)) && (true && Nat.ble (List.length (ordF fh y1) + (1 : Nat)) (1000000 : Nat))) = (false)) → False))))) ∧ (((nameB (FD.s (fh (Int.toNat (Int.ofNat y1)) ((0 : Nat) + (1 : Nat) + (1 : Nat))))) = (false)) → (qfollow1 nh fh y1)))) ∧ (((isNameC [FD.str (FD.s (fh (Int.toNat (Int.ofNat y1)) ((0 : Nat) + (1 : Nat) + (1 : Nat))))]) = (false)) → False))))) ∧ (((nameB (FD.s (fh (Int.toNat (Int.ofNat y1)) ((0 : Nat) + (1 : Nat))))) = (false)) → (qfollow1 nh fh y1)))) ∧ (((isNameC [FD.str (FD.s (fh (Int.toNat (Int.ofNat y1)) ((0 : Nat) + (1 : Nat))))]) = (false)) → False))) ∧ (qfollow3 nh fh y1))) ∧ ((true = false) → False))) ∧ (((decide ((0 : Int) ≤ Int.ofNat y1) && decide (Int.ofNat y1 < (↑nh : Int))) = (false)) → False))) ∧ (((decide (Int.ofNat y1 < Int.ofNat nh)) = (false)) → ((((Nat.beq nh (0 : Nat)) = (true)) → ((qfollow7) ∧ (((([Sh.str, Sh.bool, Sh.int IntKind.i64]) = ([Sh.str, Sh.bool, Sh.int IntKind.i64])) ∧ ((true = true) ∧ (∀ y2 : List UInt8, ((stM fh (0 : Nat) y2 : Option (List FD)) = (stM fh y1 y2))))) ∧ (((((196 : TypeId)) = ((196 : TypeId))) ∧ (((2) = (2)) ∧ (((1, 1) ∈ ([(1, 1), (2, 2), (0, 0)] : List (Nat × Nat))) ∧ (False ∧ True)))) ∧ True)))) ∧ (((Nat.beq nh (0 : Nat)) = (false)) → ((((decide (folE nh fh = (0 : Int))) = (true)) → (((true = true) ∧ ((((2, 2) ∈ ([(3, 3), (1, 1), (2, 2), (0, 0)] : List (Nat × Nat))) ∧ ((0) = (0))) ∧ ((((IntKind.i64) = (IntKind.i64)) ∧ (((0 : Int)) = ((0 : Int)))) ∧ ((((IntKind.i64) = (IntKind.i64)) ∧ (((0 : Int)) = ((0 : Int)))) ∧ True)))) ∧ (((([Sh.str, Sh.bool, Sh.int IntKind.i64]) = ([Sh.str, Sh.bool, Sh.int IntKind.i64])) ∧ ((true = true) ∧ (∀ y2 : List UInt8, ((stM fh nh y2 : Option (List FD)) = (stM fh y1 y2))))) ∧ (((((196 : TypeId)) = ((196 : TypeId))) ∧ (((2) = (2)) ∧ (((1, 1) ∈ ([(3, 3), (1, 1), (2, 2), (0, 0)] : List (Nat × Nat))) ∧ ((((3, 3) ∈ ([(3, 3), (1, 1), (2, 2), (0, 0)] : List (Nat × Nat))) ∧ ((List.length (ordF fh nh)) = (List.length (ordF fh y1)))) ∧ True)))) ∧ (((((9 : TypeId)) = ((9 : TypeId))) ∧ ((([Sh.str]) = ([Sh.str])) ∧ (((List.length (ordF fh nh)) = (List.length (ordF fh y1))) ∧ (∀ y2 : Nat, (y2 < List.length (ordF fh nh) → (∀ y3 : Nat, (y3 < List.length [Sh.str] → ((strR (ordF fh nh) y2 y3) = (strR (ordF fh y1) y2 y3))))))))) ∧ True))))) ∧ (((decide (folE nh fh = (0 : Int))) = (false)) → (((true = true) ∧ (False ∧ ((((IntKind.i64) = (IntKind.i64)) ∧ ((folI nh fh) = ((0 : Int)))) ∧ ((((IntKind.i64) = (IntKind.i64)) ∧ ((folE nh fh) = ((0 : Int)))) ∧ True)))) ∧ True))))))))))))))) := by kernel_rfl
  refine ⟨(And.intro (show _ = _ from by kernel_rfl) (And.intro (show _ = _ from by kernel_rfl) (show _ = _ from by kernel_rfl))), hvc.mpr ?_⟩
  clear hvc
  dsimp only [qfollow0, qfollow1, qfollow2, qfollow3, qfollow4, qfollow5, qfollow6, qfollow7]
  obtain ⟨hn1, hn2, hev⟩ := evsB_spec hc
  have hit : ∀ {y : Nat} {E : Int}, nh ≤ 100 → firE (evE fh) y = 0 → y < nh → evE fh y = E → E ≠ 0 → ¬nh = 0 ∧ (nh.beq 0 = false → ¬folE nh fh = 0 ∧ (¬folE nh fh = 0 → folI nh fh = ↑y ∧ folE nh fh = E)) := fun h1 h2 h3 h4 h5 => by
    obtain ⟨q1, q2⟩ := fol_hit h1 h2 h3 h4 h5
    exact ⟨by omega, fun _ => ⟨by rw [q1]; exact h5, fun _ => ⟨q2, q1⟩⟩⟩
  simp
  have step : ∀ y, firE (evE fh) y = 0 → y < nh → nh ≤ 100 → evE fh y = 0 → (((1 ≤ y + 1 ∧ y + 1 ≤ nh) ∧ firE (evE fh) (y + 1) = 0) ∧ nh - (y + 1) < nh - y) ∧ ((y + 1 : Nat) : Int) = IntKind.i64.wrap (↑y + 1) := fun y h1 h2 h3 h4 => ⟨⟨⟨⟨by omega, by omega⟩, firE_up h1 h4⟩, by omega⟩, by rw [wrap_id (by omega) (by omega)]; push_cast; rfl⟩
  refine ⟨fun h100 => ?_, fun h100' => have h100 : nh ≤ 100 := by omega
    ⟨⟨fun h0 => ⟨fun _ => ⟨fun k1 k2 => ⟨fun _ => ⟨fun hb => ⟨fun hk => ⟨fun e1 => ?_, fun e1 => ?_⟩, fun hk => ⟨fun _ => ⟨fun e1 => ?_, fun e1 => ?_⟩, isNameC_of (hev 0 h0).2⟩⟩, fun hb => ?_⟩, isNameC_of (hev 0 h0).1⟩, fun k => ?_⟩, h0⟩, fun h0 => ⟨fun _ p => rfl, h0⟩⟩,
    fun y hy1 hyn hy => ⟨fun hlt => ⟨fun _ => ⟨fun k1 k2 => ⟨fun _ => ⟨fun hb => ⟨fun hk => ⟨fun e1 => ?_, fun e1 => ⟨fun e2 => ?_, fun e2 => ⟨fun e3 => ?_, fun e3 => ?_⟩⟩⟩, fun hk => ⟨fun _ => ⟨fun e1 => ⟨fun e2 => ?_, fun e2 => ⟨fun _ => ?_, by have := ordF_length fh y; omega⟩⟩, fun e1 => ?_⟩, isNameC_of (hev y hlt).2⟩⟩, fun hb => ?_⟩, isNameC_of (hev y hlt).1⟩, fun k => ?_⟩, hlt⟩, fun hge => ?_⟩⟩⟩
  · have e1 : folE nh fh = 8 := if_neg (by omega)
    have e2 : folI nh fh = 0 := if_neg (by omega)
    exact ⟨by omega, fun _ => ⟨by rw [e1]; decide, fun _ => ⟨e2, e1⟩⟩⟩
  · exact hit (y := 0) h100 rfl h0 (by rw [evE_strip hk hb, if_neg (by rw [e1]; decide)]) (by decide)
  · exact hit (y := 0) h100 rfl h0 (by rw [evE_strip hk hb, if_pos e1]; rfl) (by decide)
  · obtain ⟨q1, q2⟩ := step 0 rfl h0 h100 (by rw [evE_coat k1 k2 hk hb, if_pos e1]; rfl)
    refine ⟨1, q1, by simpa using q2, fun p => ?_, by simp [ordF, hk], fun j hj => ?_⟩
    · rw [stM_next]
      have : stNext fh 0 (evS fh 0) = ((fh 0 2).s, decide ((fh 0 0).i = 1), 0) := by rw [stNext, if_neg hk]; rfl
      rw [this]; rfl
    · have : ordF fh 1 = [(fh 0 1).s] := by simp [ordF, hk]
      rw [this] at hj ⊢
      have : j = 0 := by simpa using hj
      subst this
      rfl
  · exact hit (y := 0) h100 rfl h0 (by rw [evE_coat k1 k2 hk hb, if_neg (by rw [e1]; decide)]) (by decide)
  · exact hit (y := 0) h100 rfl h0 (evE_3 k1 k2 hb) (by decide)
  · exact hit (y := 0) h100 rfl h0 (evE_11 k) (by decide)
  · exact hit h100 hy hlt (by rw [evE_strip hk hb, if_neg (by rw [e1]; decide)]) (by decide)
  · rw [mgt_0] at e2
    exact hit h100 hy hlt (by rw [evE_strip hk hb, if_pos e1]; exact if_pos e2) (by decide)
  · rw [mgt_0] at e2
    rw [mgt_2] at e3
    exact hit h100 hy hlt (by rw [evE_strip hk hb, if_pos e1]; exact (if_neg (by rw [show (evS fh y).1 = (FD.str (evS fh y).1).s from rfl, e2]; decide)).trans (if_pos e3)) (by decide)
  · rw [mgt_0] at e2
    rw [mgt_2] at e3 ⊢
    obtain ⟨q1, q2⟩ := step y hy hlt h100 (by rw [evE_strip hk hb, if_pos e1]; exact (if_neg (by rw [show (evS fh y).1 = (FD.str (evS fh y).1).s from rfl, e2]; decide)).trans (if_neg e3))
    have hs := stF_strips fh y (fh y 1).s
    have ho : ordF fh (y + 1) = delL (ordF fh y).length (strR (ordF fh y)) (fh y 1).s := by rw [delL_ord]; simp [ordF, hk]
    refine ⟨y + 1, q1, q2, fun p => ?_, by rw [ho], fun j hj => by rw [ho]⟩
    rw [stM_next, stNext, if_pos hk]
    show _ = if p = (fh y 1).s then some [FD.str [], FD.bool false, FD.int .i64 (IntKind.i64.wrap ((evS fh y).2.2 + 1))] else stM fh y p
    rw [wrap_id (by have := hs.1; show _ ≤ (evS fh y).2.2 + 1; unfold evS; omega) (by have := hs.2; show (evS fh y).2.2 + 1 ≤ _; unfold evS; omega)]
    rfl
  · rw [mgt_0] at e2
    exact hit h100 hy hlt (by rw [evE_coat k1 k2 hk hb, if_pos e1]; exact if_neg (by rw [show (evS fh y).1 = (FD.str (evS fh y).1).s from rfl, e2]; decide)) (by decide)
  · rw [mgt_0] at e2
    obtain ⟨q1, q2⟩ := step y hy hlt h100 (by rw [evE_coat k1 k2 hk hb, if_pos e1]; exact if_pos e2)
    have ho : ordF fh (y + 1) = ordF fh y ++ [(fh y 1).s] := by simp [ordF, hk]
    refine ⟨y + 1, q1, q2, fun p => ?_, by rw [ho]; simp, fun j hj => ?_⟩
    · rw [stM_next, stNext, if_neg hk, mgt_2]
      rfl
    · rw [ho]
      cases hjl : Nat.blt j (ordF fh y).length with
      | true =>
        have : j < (ordF fh y).length := Nat.le_of_ble_eq_true hjl
        show FD.str _ = FD.str _
        simp [List.getD, List.getElem?_append_left this]
      | false =>
        have h1 : ¬ j < (ordF fh y).length := fun h => by rw [show Nat.blt j (ordF fh y).length = true from Nat.ble_eq ▸ h] at hjl; cases hjl
        rw [ho] at hj
        have h2 : j = (ordF fh y).length := by simp at hj; omega
        subst h2
        show FD.str _ = FD.str _
        simp
  · exact hit h100 hy hlt (by rw [evE_coat k1 k2 hk hb, if_neg (by rw [e1]; decide)]) (by decide)
  · exact hit h100 hy hlt (evE_3 k1 k2 hb) (by decide)
  · exact hit h100 hy hlt (evE_11 k) (by decide)
  · have : y = nh := by omega
    subst this
    exact ⟨by omega, fun _ => ⟨fun _ => ⟨fun _ => rfl, rfl, fun _ _ => rfl⟩, (fol_ok h100 hy).1⟩⟩
end
end Go.Ex


namespace Go.Ex
open Go Go.Proofs Go.RowKit
noncomputable section
set_option maxRecDepth 1000000
def gsF : G2 := (G2.setE gsD 132 (newG followS followC followL followP))
theorem gsF_ok : G2Ok gsF := (G2Ok.setE gsD_ok (by kernel_rfl) (newG_es smLa_ok gsD_ok follow_ok))
/-- What StateOf says. -/
def soS (n : Nat) (f : Nat → Nat → FD) (p : List UInt8) : PSt := if folE n f = 0 then (stF f n p).getD ([], false, 0) else ([], false, 0)
def soE (n : Nat) (f : Nat → Nat → FD) (p : List UInt8) : Int := if folE n f = 0 then (if (stF f n p).isSome = true then 0 else 6) else folE n f
theorem isSome_st (f : Nat → Nat → FD) (n : Nat) (p : List UInt8) : isSomeB (stM f n p) = (stF f n p).isSome := by
  unfold stM
  cases stF f n p <;> rfl
theorem folI_ok {n : Nat} {f : Nat → Nat → FD} (h : folE n f = 0) : folI n f = 0 := by
  unfold folE at h
  unfold folI
  split at h
  · rename_i h'
    rw [if_pos h']
    exact firI_zero h
  · omega
def CheckHistoryS : List PT := [.one (.list [.int .i64, .str, .str])]
def CheckHistoryC : List FD → Bool
  | [.list _ nh fh] => evsB nh fh
  | _ => false
def CheckHistoryR : List FD → List FD
  | [.list _ nh fh] => [.int .i64 (folI nh fh), .int .i64 (folE nh fh)]
  | _ => []
def CheckHistoryI (_nh : Nat) (_fh : Nat → Nat → FD) : Nat → AFam := alts (fun _ => [])
theorem CheckHistory_ok : FnOk (mkR smLa gsF) Try.prog η0 73 (FI.of Try.f73 true) CheckHistoryS (.tup [.one (.int .i64), .one (.int .i64)]) CheckHistoryC CheckHistoryR := by
  refine fnOk_of0 smLa_ok gsF_ok Try.fok73 (fun fds => match fds with | [.list _ nh fh] => CheckHistoryI nh fh | _ => alts fun _ => []) ?_
  intro fds hf hc
  obtain ⟨nh, fh, ds0, rfl, gh, hf1⟩ := hf.list
  obtain rfl := hf1.nil
  have hc : (evsB nh fh) = true := hc
  have hvc : (vcF smLa gsF (FI.of Try.f73 true) CheckHistoryS (.tup [.one (.int .i64), .one (.int .i64)]) (CheckHistoryI nh fh) noR [.list [.int .i64, .str, .str] nh fh] (CheckHistoryR [.list [.int .i64, .str, .str] nh fh])) =
    ((true = true) ∧ ((((followC [FD.list [Sh.int IntKind.i64, Sh.str, Sh.str] nh fh]) = (true)) → ((((Nat.beq nh (0 : Nat)) = (true)) → ((((IntKind.i64) = (IntKind.i64)) ∧ ((folI nh fh) = ((0 : Int)))) ∧ ((((IntKind.i64) = (IntKind.i64)) ∧ ((folE nh fh) = ((0 : Int)))) ∧ True))) ∧ (((Nat.beq nh (0 : Nat)) = (false)) → ((((decide (folE nh fh = (0 : Int))) = (true)) → ((((IntKind.i64) = (IntKind.i64)) ∧ ((folI nh fh) = ((0 : Int)))) ∧ ((((IntKind.i64) = (IntKind.i64)) ∧ ((folE nh fh) = ((0 : Int)))) ∧ True))) ∧ (((decide (folE nh fh = (0 : Int))) = (false)) → ((((IntKind.i64) = (IntKind.i64)) ∧ ((folI nh fh) = (folI nh fh))) ∧ ((((IntKind.i64) = (IntKind.i64)) ∧ ((folE nh fh) = (folE nh fh))) ∧ True))))))) ∧ (((followC [FD.list [Sh.int IntKind.i64, Sh.str, Sh.str] nh fh]) = (false)) → False))) := by kernel_rfl
  refine hvc.mpr ?_
  clear hvc
  simp
  exact ⟨fun _ => ⟨fun h => by subst h; exact ⟨rfl, rfl⟩, fun _ h => ⟨folI_ok h, h⟩⟩, hc⟩
def StateOfS : List PT := [.one (.list [.int .i64, .str, .str]), .one (.str)]
def StateOfC : List FD → Bool
  | [.list _ nh fh, .str _] => evsB nh fh
  | _ => false
def StateOfR : List FD → List FD
  | [.list _ nh fh, .str p] => [.str (soS nh fh p).1, .bool (soS nh fh p).2.1, .int .i64 (soS nh fh p).2.2, .int .i64 (soE nh fh p)]
  | _ => []
def StateOfI (_nh : Nat) (_fh : Nat → Nat → FD) (_p : List UInt8) : Nat → AFam := alts (fun _ => [])
theorem StateOf_ok : FnOk (mkR smLa gsF) Try.prog η0 74 (FI.of Try.f74 true) StateOfS (.tup [.agg [.str, .bool, .int .i64], .one (.int .i64)]) StateOfC StateOfR := by
  refine fnOk_of0 smLa_ok gsF_ok Try.fok74 (fun fds => match fds with | [.list _ nh fh, .str p] => StateOfI nh fh p | _ => alts fun _ => []) ?_
  intro fds hf hc
  obtain ⟨nh, fh, ds0, rfl, gh, hf1⟩ := hf.list
  obtain ⟨p, ds1, rfl, hf2⟩ := hf1.str
  obtain rfl := hf2.nil
  have hc : (evsB nh fh) = true := hc
  have hvc : (vcF smLa gsF (FI.of Try.f74 true) StateOfS (.tup [.agg [.str, .bool, .int .i64], .one (.int .i64)]) (StateOfI nh fh p) noR [.list [.int .i64, .str, .str] nh fh, .str p] (StateOfR [.list [.int .i64, .str, .str] nh fh, .str p])) =
    ((true = true) ∧ ((((followC [FD.list [Sh.int IntKind.i64, Sh.str, Sh.str] nh fh]) = (true)) → ((((Nat.beq nh (0 : Nat)) = (true)) → (((true = false) → ((((Prod.fst (soS nh fh p) : List UInt8) = ([])) ∧ (((Prod.fst (Prod.snd (soS nh fh p))) = (false)) ∧ ((((IntKind.i64) = (IntKind.i64)) ∧ ((Prod.snd (Prod.snd (soS nh fh p))) = ((0 : Int)))) ∧ True))) ∧ ((((IntKind.i64) = (IntKind.i64)) ∧ ((soE nh fh p) = ((0 : Int)))) ∧ True))) ∧ ((true = true) → (((false = false) → ((((Prod.fst (soS nh fh p) : List UInt8) = ([])) ∧ (((Prod.fst (Prod.snd (soS nh fh p))) = (false)) ∧ ((((IntKind.i64) = (IntKind.i64)) ∧ ((Prod.snd (Prod.snd (soS nh fh p))) = ((0 : Int)))) ∧ True))) ∧ ((((IntKind.i64) = (IntKind.i64)) ∧ ((soE nh fh p) = ((6 : Int)))) ∧ True))) ∧ ((false = true) → ((((Prod.fst (soS nh fh p)) = ([])) ∧ (((Prod.fst (Prod.snd (soS nh fh p))) = (false)) ∧ ((((IntKind.i64) = (IntKind.i64)) ∧ ((Prod.snd (Prod.snd (soS nh fh p))) = ((0 : Int)))) ∧ True))) ∧ ((((IntKind.i64) = (IntKind.i64)) ∧ ((soE nh fh p) = ((0 : Int)))) ∧ True))))))) ∧ (((Nat.beq nh (0 : Nat)) = (false)) → ((((decide (folE nh fh = (0 : Int))) = (true)) → (((true = false) → ((((Prod.fst (soS nh fh p) : List UInt8) = ([])) ∧ (((Prod.fst (Prod.snd (soS nh fh p))) = (false)) ∧ ((((IntKind.i64) = (IntKind.i64)) ∧ ((Prod.snd (Prod.snd (soS nh fh p))) = ((0 : Int)))) ∧ True))) ∧ ((((IntKind.i64) = (IntKind.i64)) ∧ ((soE nh fh p) = ((0 : Int)))) ∧ True))) ∧ ((true = true) → ((((isSomeB (stM fh nh p)) = (false)) → ((((Prod.fst (soS nh fh p) : List UInt8) = ([])) ∧ (((Prod.fst (Prod.snd (soS nh fh p))) = (false)) ∧ ((((IntKind.i64) = (IntKind.i64)) ∧ ((Prod.snd (Prod.snd (soS nh fh p))) = ((0 : Int)))) ∧ True))) ∧ ((((IntKind.i64) = (IntKind.i64)) ∧ ((soE nh fh p) = ((6 : Int)))) ∧ True))) ∧ (((isSomeB (stM fh nh p)) = (true)) → ((((Prod.fst (soS nh fh p)) = (FD.s (mgt (stM fh nh p) [FD.str [], FD.bool false, FD.int IntKind.i64 (0 : Int)] (0 : Nat)))) ∧ (((Prod.fst (Prod.snd (soS nh fh p))) = (FD.b (mgt (stM fh nh p) [FD.str [], FD.bool false, FD.int IntKind.i64 (0 : Int)] ((0 : Nat) + (1 : Nat))))) ∧ ((((IntKind.i64) = (IntKind.i64)) ∧ ((Prod.snd (Prod.snd (soS nh fh p))) = (FD.i (mgt (stM fh nh p) [FD.str [], FD.bool false, FD.int IntKind.i64 (0 : Int)] ((0 : Nat) + (1 : Nat) + (1 : Nat)))))) ∧ True))) ∧ ((((IntKind.i64) = (IntKind.i64)) ∧ ((soE nh fh p) = ((0 : Int)))) ∧ True))))))) ∧ (((decide (folE nh fh = (0 : Int))) = (false)) → ((((decide (folE nh fh = (0 : Int))) = (false)) → ((((Prod.fst (soS nh fh p) : List UInt8) = ([])) ∧ (((Prod.fst (Prod.snd (soS nh fh p))) = (false)) ∧ ((((IntKind.i64) = (IntKind.i64)) ∧ ((Prod.snd (Prod.snd (soS nh fh p))) = ((0 : Int)))) ∧ True))) ∧ ((((IntKind.i64) = (IntKind.i64)) ∧ ((soE nh fh p) = (folE nh fh))) ∧ True))) ∧ (((decide (folE nh fh = (0 : Int))) = (true)) → False))))))) ∧ (((followC [FD.list [Sh.int IntKind.i64, Sh.str, Sh.str] nh fh]) = (false)) → False))) := by kernel_rfl
  refine hvc.mpr ?_
  clear hvc
  simp
  refine ⟨fun _ => ⟨fun h => ?_, fun _ => ⟨fun h => ⟨fun h2 => ?_, fun h2 => ?_⟩, fun h => ⟨fun _ => ?_, h⟩⟩⟩, hc⟩
  · subst h
    exact ⟨⟨rfl, rfl, rfl⟩, rfl⟩
  · rw [isSome_st] at h2
    rw [soS, soE, if_pos h, if_pos h, if_neg (by rw [h2]; decide)]
    cases he : stF fh nh p with
    | none => exact ⟨⟨rfl, rfl, rfl⟩, rfl⟩
    | some s => rw [he] at h2; cases h2
  · rw [isSome_st] at h2
    rw [soS, soE, if_pos h, if_pos h, if_pos h2, mgt_st, mgt_st, mgt_st]
    exact ⟨⟨rfl, rfl, rfl⟩, rfl⟩
  · rw [soS, soE, if_neg h, if_neg h]
    exact ⟨⟨rfl, rfl, rfl⟩, rfl⟩
theorem allN_of {p : Nat → Bool} : ∀ {m : Nat}, (∀ i, i < m → p i = true) → natAll p m = true
  | 0, _ => rfl
  | m + 1, h => allN_up (allN_of fun i hi => h i (by omega)) (h m (by omega))
def kindAt (f : Nat → Nat → FD) (i : Nat) : Bool := decide (0 ≤ (f i 0).i) && decide ((f i 0).i ≤ 2)
def kindsB (n : Nat) (f : Nat → Nat → FD) : Bool := Nat.ble n 102 && natAll (kindAt f) n
theorem kindsB_spec {n : Nat} {f : Nat → Nat → FD} (h : kindsB n f = true) : n ≤ 102 ∧ ∀ i, i < n → 0 ≤ (f i 0).i ∧ (f i 0).i ≤ 2 := by
  simp only [kindsB, Bool.and_eq_true, Nat.ble_eq] at h
  refine ⟨h.1, fun i hi => ?_⟩
  have := natAll_spec h.2 i hi
  simpa only [kindAt, Bool.and_eq_true, decide_eq_true_eq] using this
theorem kindsB_of {n : Nat} {f : Nat → Nat → FD} (h : n ≤ 102) (hk : ∀ i, i < n → 0 ≤ (f i 0).i ∧ (f i 0).i ≤ 2) : kindsB n f = true := by
  rw [kindsB, show Nat.ble n 102 = true from Nat.ble_eq ▸ h, Bool.true_and]
  exact allN_of fun i hi => by simpa only [kindAt, Bool.and_eq_true, decide_eq_true_eq] using hk i hi
def StateS : List PT := [.one (.list [.int .i64, .str, .str]), .one (.str)]
def StateC : List FD → Bool
  | [.list _ nh fh, .str _] => kindsB nh fh
  | _ => false
def StateR : List FD → List FD
  | [.list _ nh fh, .str p] => [.str ((stF fh nh p).getD ([], false, 0)).1, .bool ((stF fh nh p).getD ([], false, 0)).2.1, .int .i64 ((stF fh nh p).getD ([], false, 0)).2.2, .bool (stF fh nh p).isSome]
  | _ => []
def StateI (nh : Nat) (fh : Nat → Nat → FD) (p : List UInt8) : Nat → AFam := fun i => match i with | 4 => ⟨Nat, fun _ => [{ι := Nat, G := fun x => x ≤ nh, μ := fun x => nh - x, tl := fun x => [(0, .one (.fz (.root 0 0) (FD.list [Sh.int IntKind.i64, Sh.str, Sh.str] nh fh))), (1, .one (.ostr p)), (4, .one (.ptr (some (1, 0)))), (5, .one (.bool (.lit false))), (6, .one (.ptr (some (2, 0)))), (7, .one (.bool (.at_ false (.tm (stF fh x p).isSome)))), (8, .one (.int IntKind.i64 (.tm (Int.ofNat x))))], bl := fun x => [(1, .cells 124 3 [.str [], .bool (.lit false), .int IntKind.i64 (.lit (0 : Int))]), (2, .cells 124 3 [.ostr ((stF fh x p).getD ([], false, 0)).1, .bool (.at_ false (.tm ((stF fh x p).getD ([], false, 0)).2.1)), .int .i64 (.tm ((stF fh x p).getD ([], false, 0)).2.2)])], nx := (1 : Nat) + (1 : Nat) + (1 : Nat)}]⟩ | _ => ⟨Nat, fun _ => []⟩
theorem State_ok : FnOk (mkR smLa gsF) Try.prog η0 78 (FI.of Try.f78 true) StateS (.tup [.agg [.str, .bool, .int .i64], .one .bool]) StateC StateR := by
  refine fnOk_of0 smLa_ok gsF_ok Try.fok78 (fun fds => match fds with | [.list _ nh fh, .str p] => StateI nh fh p | _ => alts fun _ => []) ?_
  intro fds hf hc
  obtain ⟨nh, fh, ds0, rfl, gh, hf1⟩ := hf.list
  obtain ⟨p, ds1, rfl, hf2⟩ := hf1.str
  obtain rfl := hf2.nil
  have hc : (kindsB nh fh) = true := hc
  have hvc : (vcF smLa gsF (FI.of Try.f78 true) StateS (.tup [.agg [.str, .bool, .int .i64], .one .bool]) (StateI nh fh p) noR [.list [.int .i64, .str, .str] nh fh, .str p] (StateR [.list [.int .i64, .str, .str] nh fh, .str p])) =
    ((true = true) ∧ (∃ y0 : Nat, ((∃ y1 : Nat, ((y1 ≤ nh ∧ True) ∧ (((true = true) ∧ ((((Ref.root (0) (0)) = (Ref.root (0) (0))) ∧ (((FD.list [Sh.int IntKind.i64, Sh.str, Sh.str] nh fh) = (FD.list [Sh.int IntKind.i64, Sh.str, Sh.str] nh fh)) ∧ (true = true))) ∧ (((p) = (p)) ∧ ((((1, 1) ∈ ([(2, 2), (1, 1)] : List (Nat × Nat))) ∧ ((0) = (0))) ∧ ((false = false) ∧ ((((2, 2) ∈ ([(2, 2), (1, 1)] : List (Nat × Nat))) ∧ ((0) = (0))) ∧ (((Option.isSome (stF fh y1 p)) = (false)) ∧ ((((IntKind.i64) = (IntKind.i64)) ∧ ((Int.ofNat y1) = ((0 : Int)))) ∧ True)))))))) ∧ (((((124 : TypeId)) = ((124 : Nat))) ∧ (((3) = (3)) ∧ ((([] : List UInt8) = ([])) ∧ ((false = false) ∧ ((((IntKind.i64) = (IntKind.i64)) ∧ (((0 : Int)) = ((0 : Int)))) ∧ True))))) ∧ (((((124 : TypeId)) = ((124 : Nat))) ∧ (((3) = (3)) ∧ (((Prod.fst (Option.getD (stF fh y1 p) ([], false, (0 : Int))) : List UInt8) = ([])) ∧ (((Prod.fst (Prod.snd (Option.getD (stF fh y1 p) ([], false, (0 : Int))))) = (false)) ∧ ((((IntKind.i64) = (IntKind.i64)) ∧ ((Prod.snd (Prod.snd (Option.getD (stF fh y1 p) ([], false, (0 : Int))))) = ((0 : Int)))) ∧ True))))) ∧ True))))) ∧ (∀ y1 : Nat, (y1 ≤ nh → ((((decide (Int.ofNat y1 < Int.ofNat nh)) = (true)) → ((((decide ((0 : Int) ≤ Int.ofNat y1) && decide (Int.ofNat y1 < (↑nh : Int))) = (true)) → ((((!bytesEq (FD.s (fh (Int.toNat (Int.ofNat y1)) ((0 : Nat) + Field.offset { name := "Part", type := (9 : Nat), offset := (1 : Nat), embedded := false, tag := "", pkgPath := "", byteOffset := (8 : Nat) }))) p) = (true)) → (∃ y2 : Nat, ((y2 ≤ nh ∧ nh - y2 < nh - y1) ∧ (((true = true) ∧ ((((Ref.root (0) (0)) = (Ref.root (0) (0))) ∧ (((FD.list [Sh.int IntKind.i64, Sh.str, Sh.str] nh fh) = (FD.list [Sh.int IntKind.i64, Sh.str, Sh.str] nh fh)) ∧ (true = true))) ∧ (((p) = (p)) ∧ ((((1, 1) ∈ ([(2, 2), (1, 1)] : List (Nat × Nat))) ∧ ((0) = (0))) ∧ ((false = false) ∧ ((((2, 2) ∈ ([(2, 2), (1, 1)] : List (Nat × Nat))) ∧ ((0) = (0))) ∧ (((Option.isSome (stF fh y2 p)) = (Option.isSome (stF fh y1 p))) ∧ ((((IntKind.i64) = (IntKind.i64)) ∧ ((Int.ofNat y2) = (IntKind.wrap IntKind.i64 (Int.ofNat y1 + (1 : Int))))) ∧ True)))))))) ∧ (((((124 : TypeId)) = ((124 : TypeId))) ∧ (((3) = (3)) ∧ ((([] : List UInt8) = ([])) ∧ ((false = false) ∧ ((((IntKind.i64) = (IntKind.i64)) ∧ (((0 : Int)) = ((0 : Int)))) ∧ True))))) ∧ (((((124 : TypeId)) = ((124 : TypeId))) ∧ (((3) = (3)) ∧ (((Prod.fst (Option.getD (stF fh y2 p) ([], false, (0 : Int)))) = (Prod.fst (Option.getD (stF fh y1 p) ([], false, (0 : Int))))) ∧ (((Prod.fst (Prod.snd (Option.getD (stF fh y2 p) ([], false, (0 : Int))))) = (Prod.fst (Prod.snd (Option.getD (stF fh y1 p) ([], false, (0 : Int)))))) ∧ ((((IntKind.i64) = (IntKind.i64)) ∧ ((Prod.snd (Prod.snd (Option.getD (stF fh y2 p) ([], false, (0 : Int))))) = (Prod.snd (Prod.snd (Option.getD (stF fh y1 p) ([], false, (0 : Int))))))) ∧ True))))) ∧ True)))))) ∧ (((!bytesEq (FD.s (fh (Int.toNat (Int.ofNat y1)) ((0 : Nat) + Field.offset { name := "Part", type := (9 : Nat), offset := (1 : Nat), embedded := false, tag := "", pkgPath := "", byteOffset := (8 : Nat) }))) p) = (false)) → ((((decide ((0 : Int) ≤ Int.ofNat y1) && decide (Int.ofNat y1 < (↑nh : Int))) = (true)) → ((((decide (FD.i (fh (Int.toNat (Int.ofNat y1)) ((0 : Nat) + Field.offset { name := "Kind", type := (3 : Nat), offset := (0 : Nat), embedded := false, tag := "", pkgPath := "", byteOffset := (0 : Nat) })) = (0 : Int))) = (true)) → ((((decide ((0 : Int) ≤ Int.ofNat y1) && decide (Int.ofNat y1 < (↑nh : Int))) = (true)) → (∃ y2 : Nat, ((y2 ≤ nh ∧ nh - y2 < nh - y1) ∧ (((true = true) ∧ ((((Ref.root (0) (0)) = (Ref.root (0) (0))) ∧ (((FD.list [Sh.int IntKind.i64, Sh.str, Sh.str] nh fh) = (FD.list [Sh.int IntKind.i64, Sh.str, Sh.str] nh fh)) ∧ (true = true))) ∧ (((p) = (p)) ∧ ((((1, 1) ∈ ([(2, 2), (1, 1)] : List (Nat × Nat))) ∧ ((0) = (0))) ∧ ((false = false) ∧ ((((2, 2) ∈ ([(2, 2), (1, 1)] : List (Nat × Nat))) ∧ ((0) = (0))) ∧ (((Option.isSome (stF fh y2 p)) = (true)) ∧ ((((IntKind.i64) = (IntKind.i64)) ∧ ((Int.ofNat y2) = (IntKind.wrap IntKind.i64 (Int.ofNat y1 + (1 : Int))))) ∧ True)))))))) ∧ (((((124 : TypeId)) = ((124 : TypeId))) ∧ (((3) = (3)) ∧ ((([] : List UInt8) = ([])) ∧ ((false = false) ∧ ((((IntKind.i64) = (IntKind.i64)) ∧ (((0 : Int)) = ((0 : Int)))) ∧ True))))) ∧ (((((124 : TypeId)) = ((124 : TypeId))) ∧ (((3) = (3)) ∧ (((Prod.fst (Option.getD (stF fh y2 p) ([], false, (0 : Int)))) = (FD.s (fh (Int.toNat (Int.ofNat y1)) ((0 : Nat) + Field.offset { name := "Batch", type := (9 : Nat), offset := (2 : Nat), embedded := false, tag := "", pkgPath := "", byteOffset := (24 : Nat) })))) ∧ (((Prod.fst (Prod.snd (Option.getD (stF fh y2 p) ([], false, (0 : Int))))) = (false)) ∧ ((((IntKind.i64) = (IntKind.i64)) ∧ ((Prod.snd (Prod.snd (Option.getD (stF fh y2 p) ([], false, (0 : Int))))) = (Prod.snd (Prod.snd (Option.getD (stF fh y1 p) ([], false, (0 : Int))))))) ∧ True))))) ∧ True)))))) ∧ (((decide ((0 : Int) ≤ Int.ofNat y1) && decide (Int.ofNat y1 < (↑nh : Int))) = (false)) → False))) ∧ (((decide (FD.i (fh (Int.toNat (Int.ofNat y1)) ((0 : Nat) + Field.offset { name := "Kind", type := (3 : Nat), offset := (0 : Nat), embedded := false, tag := "", pkgPath := "", byteOffset := (0 : Nat) })) = (0 : Int))) = (false)) → ((((decide (FD.i (fh (Int.toNat (Int.ofNat y1)) ((0 : Nat) + Field.offset { name := "Kind", type := (3 : Nat), offset := (0 : Nat), embedded := false, tag := "", pkgPath := "", byteOffset := (0 : Nat) })) = (1 : Int))) = (true)) → ((((decide ((0 : Int) ≤ Int.ofNat y1) && decide (Int.ofNat y1 < (↑nh : Int))) = (true)) → (∃ y2 : Nat, ((y2 ≤ nh ∧ nh - y2 < nh - y1) ∧ (((true = true) ∧ ((((Ref.root (0) (0)) = (Ref.root (0) (0))) ∧ (((FD.list [Sh.int IntKind.i64, Sh.str, Sh.str] nh fh) = (FD.list [Sh.int IntKind.i64, Sh.str, Sh.str] nh fh)) ∧ (true = true))) ∧ (((p) = (p)) ∧ ((((1, 1) ∈ ([(2, 2), (1, 1)] : List (Nat × Nat))) ∧ ((0) = (0))) ∧ ((false = false) ∧ ((((2, 2) ∈ ([(2, 2), (1, 1)] : List (Nat × Nat))) ∧ ((0) = (0))) ∧ (((Option.isSome (stF fh y2 p)) = (true)) ∧ ((((IntKind.i64) = (IntKind.i64)) ∧ ((Int.ofNat y2) = (IntKind.wrap IntKind.i64 (Int.ofNat y1 + (1 : Int))))) ∧ True)))))))) ∧ (((((124 : TypeId)) = ((124 : TypeId))) ∧ (((3) = (3)) ∧ ((([] : List UInt8) = ([])) ∧ ((false = false) ∧ ((((IntKind.i64) = (IntKind.i64)) ∧ (((0 : Int)) = ((0 : Int)))) ∧ True))))) ∧ (((((124 : TypeId)) = ((124 : TypeId))) ∧ (((3) = (3)) ∧ (((Prod.fst (Option.getD (stF fh y2 p) ([], false, (0 : Int)))) = (FD.s (fh (Int.toNat (Int.ofNat y1)) ((0 : Nat) + Field.offset { name := "Batch", type := (9 : Nat), offset := (2 : Nat), embedded := false, tag := "", pkgPath := "", byteOffset := (24 : Nat) })))) ∧ (((Prod.fst (Prod.snd (Option.getD (stF fh y2 p) ([], false, (0 : Int))))) = (true)) ∧ ((((IntKind.i64) = (IntKind.i64)) ∧ ((Prod.snd (Prod.snd (Option.getD (stF fh y2 p) ([], false, (0 : Int))))) = (Prod.snd (Prod.snd (Option.getD (stF fh y1 p) ([], false, (0 : Int))))))) ∧ True))))) ∧ True)))))) ∧ (((decide ((0 : Int) ≤ Int.ofNat y1) && decide (Int.ofNat y1 < (↑nh : Int))) = (false)) → False))) ∧ (((decide (FD.i (fh (Int.toNat (Int.ofNat y1)) ((0 : Nat) + Field.offset { name := "Kind", type := (3 : Nat), offset := (0 : Nat), embedded := false, tag := "", pkgPath := "", byteOffset := (0 : Nat) })) = (1 : Int))) = (false)) → ((((decide (FD.i (fh (Int.toNat (Int.ofNat y1)) ((0 : Nat) + Field.offset { name := "Kind", type := (3 : Nat), offset := (0 : Nat), embedded := false, tag := "", pkgPath := "", byteOffset := (0 : Nat) })) = (2 : Int))) = (true)) → (∃ y2 : Nat, ((y2 ≤ nh ∧ nh - y2 < nh - y1) ∧ (((true = true) ∧ ((((Ref.root (0) (0)) = (Ref.root (0) (0))) ∧ (((FD.list [Sh.int IntKind.i64, Sh.str, Sh.str] nh fh) = (FD.list [Sh.int IntKind.i64, Sh.str, Sh.str] nh fh)) ∧ (true = true))) ∧ (((p) = (p)) ∧ ((((1, 1) ∈ ([(2, 2), (1, 1)] : List (Nat × Nat))) ∧ ((0) = (0))) ∧ ((false = false) ∧ ((((2, 2) ∈ ([(2, 2), (1, 1)] : List (Nat × Nat))) ∧ ((0) = (0))) ∧ (((Option.isSome (stF fh y2 p)) = (true)) ∧ ((((IntKind.i64) = (IntKind.i64)) ∧ ((Int.ofNat y2) = (IntKind.wrap IntKind.i64 (Int.ofNat y1 + (1 : Int))))) ∧ True)))))))) ∧ (((((124 : TypeId)) = ((124 : TypeId))) ∧ (((3) = (3)) ∧ ((([] : List UInt8) = ([])) ∧ ((false = false) ∧ ((((IntKind.i64) = (IntKind.i64)) ∧ (((0 : Int)) = ((0 : Int)))) ∧ True))))) ∧ (((((124 : TypeId)) = ((124 : TypeId))) ∧ (((3) = (3)) ∧ (((Prod.fst (Option.getD (stF fh y2 p) ([], false, (0 : Int)))) = (Array.toList (ByteArray.data { data := #[] }))) ∧ (((Prod.fst (Prod.snd (Option.getD (stF fh y2 p) ([], false, (0 : Int))))) = (false)) ∧ ((((IntKind.i64) = (IntKind.i64)) ∧ ((Prod.snd (Prod.snd (Option.getD (stF fh y2 p) ([], false, (0 : Int))))) = (IntKind.wrap IntKind.i64 (Prod.snd (Prod.snd (Option.getD (stF fh y1 p) ([], false, (0 : Int)))) + (1 : Int))))) ∧ True))))) ∧ True)))))) ∧ (((decide (FD.i (fh (Int.toNat (Int.ofNat y1)) ((0 : Nat) + Field.offset { name := "Kind", type := (3 : Nat), offset := (0 : Nat), embedded := false, tag := "", pkgPath := "", byteOffset := (0 : Nat) })) = (2 : Int))) = (false)) → (∃ y2 : Nat, ((y2 ≤ nh ∧ nh - y2 < nh - y1) ∧ (((true = true) ∧ ((((Ref.root (0) (0)) = (Ref.root (0) (0))) ∧ (((FD.list [Sh.int IntKind.i64, Sh.str, Sh.str] nh fh) = (FD.list [Sh.int IntKind.i64, Sh.str, Sh.str] nh fh)) ∧ (true = true))) ∧ (((p) = (p)) ∧ ((((1, 1) ∈ ([(2, 2), (1, 1)] : List (Nat × Nat))) ∧ ((0) = (0))) ∧ ((false = false) ∧ ((((2, 2) ∈ ([(2, 2), (1, 1)] : List (Nat × Nat))) ∧ ((0) = (0))) ∧ (((Option.isSome (stF fh y2 p)) = (true)) ∧ ((((IntKind.i64) = (IntKind.i64)) ∧ ((Int.ofNat y2) = (IntKind.wrap IntKind.i64 (Int.ofNat y1 + (1 : Int))))) ∧ True)))))))) ∧ (((((124 : TypeId)) = ((124 : TypeId))) ∧ (((3) = (3)) ∧ ((([] : List UInt8) = ([])) ∧ ((false = false) ∧ ((((IntKind.i64) = (IntKind.i64)) ∧ (((0 : Int)) = ((0 : Int)))) ∧ True))))) ∧ (((((124 : TypeId)) = ((124 : TypeId))) ∧ (((3) = (3)) ∧ (((Prod.fst (Option.getD (stF fh y2 p) ([], false, (0 : Int)))) = (Prod.fst (Option.getD (stF fh y1 p) ([], false, (0 : Int))))) ∧ (((Prod.fst (Prod.snd (Option.getD (stF fh y2 p) ([], false, (0 : Int))))) = (Prod.fst (Prod.snd (Option.getD (stF fh y1 p) ([], false, (0 : Int)))))) ∧ ((((IntKind.i64) = (IntKind.i64)) ∧ ((Prod.snd (Prod.snd (Option.getD (stF fh y2 p) ([], false, (0 : Int))))) = (Prod.snd (Prod.snd (Option.getD (stF fh y1 p) ([], false, (0 : Int))))))) ∧ True))))) ∧ True)))))))))))) ∧ (((decide ((0 : Int) ≤ Int.ofNat y1) && decide (Int.ofNat y1 < (↑nh : Int))) = (false)) → False))))) ∧ (((decide ((0 : Int) ≤ Int.ofNat y1) && decide (Int.ofNat y1 < (↑nh : Int))) = (false)) → False))) ∧ (((decide (Int.ofNat y1 < Int.ofNat nh)) = (false)) → ((((Prod.fst (Option.getD (stF fh nh p) ([], false, (0 : Int)))) = (Prod.fst (Option.getD (stF fh y1 p) ([], false, (0 : Int))))) ∧ (((Prod.fst (Prod.snd (Option.getD (stF fh nh p) ([], false, (0 : Int))))) = (Prod.fst (Prod.snd (Option.getD (stF fh y1 p) ([], false, (0 : Int)))))) ∧ ((((IntKind.i64) = (IntKind.i64)) ∧ ((Prod.snd (Prod.snd (Option.getD (stF fh nh p) ([], false, (0 : Int))))) = (Prod.snd (Prod.snd (Option.getD (stF fh y1 p) ([], false, (0 : Int))))))) ∧ True))) ∧ (((Option.isSome (stF fh nh p)) = (Option.isSome (stF fh y1 p))) ∧ True))))))))) := by kernel_rfl
  refine hvc.mpr ?_
  clear hvc
  obtain ⟨hn, hk⟩ := kindsB_spec hc
  simp
  have up : ∀ y, y < nh → (y + 1 ≤ nh ∧ nh - (y + 1) < nh - y) := fun y h => ⟨by omega, by omega⟩
  have w1 : ∀ y, y < nh → ((y + 1 : Nat) : Int) = IntKind.i64.wrap ((y : Int) + 1) := fun y h => by rw [wrap_id (by omega) (by omega)]; rfl
  have nx0 : ∀ y, bytesEq (fh y 1).s p = false → stF fh (y + 1) p = stF fh y p := fun y h => by rw [stF, if_neg (by rw [h]; decide)]
  have nx1 : ∀ y, bytesEq (fh y 1).s p = true → stF fh (y + 1) p = some (stNext fh y ((stF fh y p).getD ([], false, 0))) := fun y h => by rw [stF, if_pos h]
  refine ⟨⟨0, by omega, ⟨rfl, rfl⟩, rfl, rfl, rfl⟩, fun y hy => ⟨fun hlt => ⟨fun _ => ⟨fun e => ⟨y + 1, up y hlt, ?_⟩, fun e => ⟨fun _ => ⟨fun k0 => ⟨fun _ => ⟨y + 1, up y hlt, ?_⟩, hlt⟩, fun k0 => ⟨fun k1 => ⟨fun _ => ⟨y + 1, up y hlt, ?_⟩, hlt⟩, fun k1 => ⟨fun k2 => ⟨y + 1, up y hlt, ?_⟩, fun k2 => ?_⟩⟩⟩, hlt⟩⟩, hlt⟩, fun hge => ?_⟩⟩
  · rw [nx0 y e]
    exact ⟨⟨rfl, w1 y hlt⟩, rfl, rfl, rfl⟩
  · rw [nx1 y e, stNext, if_neg (by omega)]
    exact ⟨⟨rfl, w1 y hlt⟩, rfl, by simp [k0], rfl⟩
  · rw [nx1 y e, stNext, if_neg (by omega)]
    exact ⟨⟨rfl, w1 y hlt⟩, rfl, by simp [k1], rfl⟩
  · rw [nx1 y e, stNext, if_pos k2]
    have hs := stF_strips fh y p
    exact ⟨⟨rfl, w1 y hlt⟩, rfl, rfl, by rw [wrap_id (by omega) (by omega)]; rfl⟩
  · have := hk y hlt
    omega
  · obtain rfl : y = nh := by omega
    exact ⟨⟨rfl, rfl, rfl⟩, rfl⟩
def smHa : T Smf := (T.set smLa 78 (some (gFd StateS (.tup [.agg [.str, .bool, .int .i64], .one .bool]) StateC StateR)))
theorem smHa_ok : Tab SmOk smHa := (Tab.set smLa_ok (by kernel_rfl) (smOk_of smLa_ok gsF_ok State_ok rfl))
/-- The error of an event behind others. -/
def evErr (n : Nat) (f : Nat → Nat → FD) (k : Int) (a b : List UInt8) : Int :=
  if 0 ≤ k ∧ k ≤ 2 then (if nameB a = true then
    (if k = 2 then (if bytesEq b [] = true then (if bytesEq ((stF f n a).getD ([], false, 0)).1 [] = true then 22 else if ((stF f n a).getD ([], false, 0)).2.2 = 3 then 16 else 0) else 13)
     else (if nameB b = true then (if bytesEq ((stF f n a).getD ([], false, 0)).1 [] = true then 0 else 22) else 3)) else 3) else 11
def eventErrS : List PT := [.one (.list [.int .i64, .str, .str]), .agg [.int .i64, .str, .str]]
def eventErrC : List FD → Bool
  | [.list _ nh fh, .int _ _, .str a, .str b] => kindsB nh fh && (Nat.ble a.length 20 && Nat.ble b.length 20)
  | _ => false
def eventErrR : List FD → List FD
  | [.list _ nh fh, .int _ k, .str a, .str b] => [.int .i64 (evErr nh fh k a b)]
  | _ => []
def eventErrI (_nh : Nat) (_fh : Nat → Nat → FD) (_k : Int) (_a : List UInt8) (_b : List UInt8) : Nat → AFam := alts (fun _ => [])
theorem eventErr_ok : FnOk (mkR smHa gsF) Try.prog η0 138 (FI.of Try.f138 true) eventErrS (.one (.int .i64)) eventErrC eventErrR := by
  refine fnOk_of0 smHa_ok gsF_ok Try.fok138 (fun fds => match fds with | [.list _ nh fh, .int _ k, .str a, .str b] => eventErrI nh fh k a b | _ => alts fun _ => []) ?_
  intro fds hf hc
  obtain ⟨nh, fh, ds0, rfl, gh, hf1⟩ := hf.list
  obtain ⟨k, ds1, rfl, hf2⟩ := hf1.int
  obtain ⟨a, ds2, rfl, hf3⟩ := hf2.str
  obtain ⟨b, ds3, rfl, hf4⟩ := hf3.str
  obtain rfl := hf4.nil
  have hc : (kindsB nh fh && (Nat.ble a.length 20 && Nat.ble b.length 20)) = true := hc
  have hvc : (vcF smHa gsF (FI.of Try.f138 true) eventErrS (.one (.int .i64)) (eventErrI nh fh k a b) noR [.list [.int .i64, .str, .str] nh fh, .int .i64 k, .str a, .str b] (eventErrR [.list [.int .i64, .str, .str] nh fh, .int .i64 k, .str a, .str b])) =
    ((true = true) ∧ (((true = true) → ((((decide ((0 : Int) ≤ k) && decide (k ≤ (2 : Int))) = (false)) → (((IntKind.i64) = (IntKind.i64)) ∧ ((evErr nh fh k a b) = ((11 : Int))))) ∧ (((decide ((0 : Int) ≤ k) && decide (k ≤ (2 : Int))) = (true)) → ((((IsNameC [FD.str a]) = (true)) → ((((nameB a) = (false)) → (((IntKind.i64) = (IntKind.i64)) ∧ ((evErr nh fh k a b) = ((3 : Int))))) ∧ (((nameB a) = (true)) → ((((StateC [FD.list [Sh.int IntKind.i64, Sh.str, Sh.str] nh fh, FD.str a]) = (true)) → ((((decide (k = (2 : Int))) = (false)) → ((((IsNameC [FD.str b]) = (true)) → ((((nameB b) = (false)) → (((IntKind.i64) = (IntKind.i64)) ∧ ((evErr nh fh k a b) = ((3 : Int))))) ∧ (((nameB b) = (true)) → ((((!bytesEq (Prod.fst (Option.getD (stF fh nh a) ([], false, (0 : Int)))) (Array.toList (ByteArray.data { data := #[] }))) = (true)) → (((IntKind.i64) = (IntKind.i64)) ∧ ((evErr nh fh k a b) = ((22 : Int))))) ∧ (((!bytesEq (Prod.fst (Option.getD (stF fh nh a) ([], false, (0 : Int)))) (Array.toList (ByteArray.data { data := #[] }))) = (false)) → (((IntKind.i64) = (IntKind.i64)) ∧ ((evErr nh fh k a b) = ((0 : Int))))))))) ∧ (((IsNameC [FD.str b]) = (false)) → False))) ∧ (((decide (k = (2 : Int))) = (true)) → ((((!bytesEq b (Array.toList (ByteArray.data { data := #[] }))) = (true)) → (((IntKind.i64) = (IntKind.i64)) ∧ ((evErr nh fh k a b) = ((13 : Int))))) ∧ (((!bytesEq b (Array.toList (ByteArray.data { data := #[] }))) = (false)) → ((((bytesEq (Prod.fst (Option.getD (stF fh nh a) ([], false, (0 : Int)))) (Array.toList (ByteArray.data { data := #[] }))) = (true)) → (((IntKind.i64) = (IntKind.i64)) ∧ ((evErr nh fh k a b) = ((22 : Int))))) ∧ (((bytesEq (Prod.fst (Option.getD (stF fh nh a) ([], false, (0 : Int)))) (Array.toList (ByteArray.data { data := #[] }))) = (false)) → ((((decide (Prod.snd (Prod.snd (Option.getD (stF fh nh a) ([], false, (0 : Int)))) = (3 : Int))) = (true)) → (((IntKind.i64) = (IntKind.i64)) ∧ ((evErr nh fh k a b) = ((16 : Int))))) ∧ (((decide (Prod.snd (Prod.snd (Option.getD (stF fh nh a) ([], false, (0 : Int)))) = (3 : Int))) = (false)) → (((IntKind.i64) = (IntKind.i64)) ∧ ((evErr nh fh k a b) = ((0 : Int))))))))))))) ∧ (((StateC [FD.list [Sh.int IntKind.i64, Sh.str, Sh.str] nh fh, FD.str a]) = (false)) → False))))) ∧ (((IsNameC [FD.str a]) = (false)) → False))))) ∧ ((true = false) → False))) := by kernel_rfl
  refine hvc.mpr ?_
  clear hvc
  simp only [Bool.and_eq_true, Nat.ble_eq] at hc
  obtain ⟨hk, ha, hb⟩ := hc
  have n1 : ∀ l : List UInt8, l.length ≤ 20 → IsNameC [.str l] = true := fun l h => Nat.ble_eq_true_of_le (by omega)
  simp
  refine ⟨fun h => ?_, fun k0 k1 => ⟨fun _ => ⟨fun e => ?_, fun e => ⟨fun _ => ⟨fun k2 => ⟨fun _ => ⟨fun e1 => ?_, fun e1 => ⟨fun e2 => ?_, fun e2 => ?_⟩⟩, n1 b hb⟩, fun k2 => ⟨fun e1 => ?_, fun e1 => ⟨fun e2 => ?_, fun e2 => ⟨fun e3 => ?_, fun e3 => ?_⟩⟩⟩⟩, hk⟩⟩, n1 a ha⟩⟩
  · rw [evErr, if_neg (fun h' => by have := h h'.1; omega)]
  all_goals rw [evErr, if_pos ⟨k0, k1⟩]
  · rw [if_neg (by rw [e]; decide)]
  all_goals rw [if_pos e]
  · rw [if_neg k2, if_neg (by rw [e1]; decide)]
  · rw [if_neg k2, if_pos e1, if_neg (by rw [e2]; decide)]
  · rw [if_neg k2, if_pos e1, if_pos e2]
  · rw [if_pos k2, if_neg (by rw [e1]; decide)]
  · rw [if_pos k2, if_pos e1, if_pos e2]
  · rw [if_pos k2, if_pos e1, if_neg (by rw [e2]; decide), if_pos e3]
  · rw [if_pos k2, if_pos e1, if_neg (by rw [e2]; decide), if_neg e3]
def smHb : T Smf := (T.set smHa 138 (some (gFd eventErrS (.one (.int .i64)) eventErrC eventErrR)))
theorem smHb_ok : Tab SmOk smHb := (Tab.set smHa_ok (by kernel_rfl) (smOk_of smHa_ok gsF_ok eventErr_ok rfl))
theorem evE_kind {f : Nat → Nat → FD} {i : Nat} (h : evE f i = 0) : 0 ≤ (f i 0).i ∧ (f i 0).i ≤ 2 := by
  by_cases hk : 0 ≤ (f i 0).i ∧ (f i 0).i ≤ 2
  · exact hk
  · rw [evE, if_neg hk] at h
    cases h
theorem evsB_no {n : Nat} {f : Nat → Nat → FD} (h : ¬ (n ≤ 20 ∨ 101 ≤ n ∧ n ≤ 102)) : evsB n f = false := by
  cases hb : evsB n f with
  | false => rfl
  | true =>
    obtain ⟨q1, q2, _⟩ := evsB_spec hb
    omega
theorem evsB_not {n y : Nat} {f : Nat → Nat → FD} (hy : y < n) (h : ¬ ((f y 1).s.length ≤ 20 ∧ (f y 2).s.length ≤ 20)) : evsB n f = false := by
  cases hb : evsB n f with
  | false => rfl
  | true =>
    obtain ⟨_, _, q⟩ := evsB_spec hb
    exact absurd (q y hy) h
def refCheckHistoryS : List PT := [.one (.list [.int .i64, .str, .str])]
def refCheckHistoryC : List FD → Bool
  | [.list _ nh fh] => evsB nh fh
  | _ => false
def refCheckHistoryR : List FD → List FD
  | [.list _ nh fh] => [.int .i64 (folI nh fh), .int .i64 (folE nh fh)]
  | _ => []
def refCheckHistoryI (nh : Nat) (fh : Nat → Nat → FD) : Nat → AFam := fun i => match i with | 4 => ⟨Nat, fun _ => [{ι := Nat, G := fun x => x ≤ nh ∧ firE (evE fh) x = 0, μ := fun x => nh - x, tl := fun x => [(0, .one (.fz (.root 0 0) (FD.list [Sh.int IntKind.i64, Sh.str, Sh.str] nh fh))), (2, .one (.int IntKind.i64 (.lit (0 : Int)))), (3, .one (.int IntKind.i64 (.lit (0 : Int)))), (4, .one (.int IntKind.i64 (.tm (Int.ofNat x))))], bl := fun _ => [], nx := (1 : Nat)}]⟩ | _ => ⟨Nat, fun _ => []⟩
theorem refCheckHistory_ok : FnOk (mkR smHb gsF) Try.prog η0 77 (FI.of Try.f77 true) refCheckHistoryS (.tup [.one (.int .i64), .one (.int .i64)]) refCheckHistoryC refCheckHistoryR := by
  refine fnOk_of0 smHb_ok gsF_ok Try.fok77 (fun fds => match fds with | [.list _ nh fh] => refCheckHistoryI nh fh | _ => alts fun _ => []) ?_
  intro fds hf hc
  obtain ⟨nh, fh, ds0, rfl, gh, hf1⟩ := hf.list
  obtain rfl := hf1.nil
  have hc : (evsB nh fh) = true := hc
  have hvc : (vcF smHb gsF (FI.of Try.f77 true) refCheckHistoryS (.tup [.one (.int .i64), .one (.int .i64)]) (refCheckHistoryI nh fh) noR [.list [.int .i64, .str, .str] nh fh] (refCheckHistoryR [.list [.int .i64, .str, .str] nh fh])) =
    ((true = true) ∧ ((((decide ((100 : Int) < Int.ofNat nh)) = (true)) → ((((IntKind.i64) = (IntKind.i64)) ∧ ((folI nh fh) = ((0 : Int)))) ∧ ((((IntKind.i64) = (IntKind.i64)) ∧ ((folE nh fh) = ((8 : Int)))) ∧ True))) ∧ (((decide ((100 : Int) < Int.ofNat nh)) = (false)) → (∃ y0 : Nat, ((∃ y1 : Nat, (((y1 ≤ nh ∧ ((firE (evE fh) y1) = ((0 : Int)))) ∧ True) ∧ (((true = true) ∧ ((((Ref.root (0) (0)) = (Ref.root (0) (0))) ∧ (((FD.list [Sh.int IntKind.i64, Sh.str, Sh.str] nh fh) = (FD.list [Sh.int IntKind.i64, Sh.str, Sh.str] nh fh)) ∧ (true = true))) ∧ ((((IntKind.i64) = (IntKind.i64)) ∧ (((0 : Int)) = ((0 : Int)))) ∧ ((((IntKind.i64) = (IntKind.i64)) ∧ (((0 : Int)) = ((0 : Int)))) ∧ ((((IntKind.i64) = (IntKind.i64)) ∧ ((Int.ofNat y1) = ((0 : Int)))) ∧ True))))) ∧ True))) ∧ (∀ y1 : Nat, ((y1 ≤ nh ∧ ((firE (evE fh) y1) = ((0 : Int)))) → ((((decide (Int.ofNat y1 < Int.ofNat nh)) = (true)) → ((((decide ((0 : Int) ≤ (0 : Int)) && (decide ((0 : Int) ≤ Int.ofNat y1) && decide (Int.ofNat y1 ≤ (↑nh : Int)))) = (true)) → ((((decide ((0 : Int) ≤ Int.ofNat y1) && decide (Int.ofNat y1 < (↑nh : Int))) = (true)) → ((((eventErrC ((FD.list [Sh.int IntKind.i64, Sh.str, Sh.str] (Int.toNat (Int.ofNat y1 - (0 : Int))) fun (i j : Nat) => fh (Int.toNat (0 : Int) + i) j) :: ([FD.int IntKind.i64 (FD.i (fh (Int.toNat (Int.ofNat y1)) (0 : Nat))), FD.str (FD.s (fh (Int.toNat (Int.ofNat y1)) ((0 : Nat) + (1 : Nat)))), FD.str (FD.s (fh (Int.toNat (Int.ofNat y1)) ((0 : Nat) + (1 : Nat) + (1 : Nat))))] ++ []))) = (true)) → ((((decide (evErr (Int.toNat (Int.ofNat y1 - (0 : Int))) (fun (i j : Nat) => fh (Int.toNat (0 : Int) + i) j) (FD.i (fh (Int.toNat (Int.ofNat y1)) (0 : Nat))) (FD.s (fh (Int.toNat (Int.ofNat y1)) ((0 : Nat) + (1 : Nat)))) (FD.s (fh (Int.toNat (Int.ofNat y1)) ((0 : Nat) + (1 : Nat) + (1 : Nat)))) = (0 : Int))) = (false)) → ((((IntKind.i64) = (IntKind.i64)) ∧ ((folI nh fh) = (Int.ofNat y1))) ∧ ((((IntKind.i64) = (IntKind.i64)) ∧ ((folE nh fh) = (evErr (Int.toNat (Int.ofNat y1 - (0 : Int))) (fun (i j : Nat) => fh (Int.toNat (0 : Int) + i) j) (FD.i (fh (Int.toNat (Int.ofNat y1)) (0 : Nat))) (FD.s (fh (Int.toNat (Int.ofNat y1)) ((0 : Nat) + (1 : Nat)))) (FD.s (fh (Int.toNat (Int.ofNat y1)) ((0 : Nat) + (1 : Nat) + (1 : Nat))))))) ∧ True))) ∧ (((decide (evErr (Int.toNat (Int.ofNat y1 - (0 : Int))) (fun (i j : Nat) => fh (Int.toNat (0 : Int) + i) j) (FD.i (fh (Int.toNat (Int.ofNat y1)) (0 : Nat))) (FD.s (fh (Int.toNat (Int.ofNat y1)) ((0 : Nat) + (1 : Nat)))) (FD.s (fh (Int.toNat (Int.ofNat y1)) ((0 : Nat) + (1 : Nat) + (1 : Nat)))) = (0 : Int))) = (true)) → (∃ y2 : Nat, (((y2 ≤ nh ∧ ((firE (evE fh) y2) = ((0 : Int)))) ∧ nh - y2 < nh - y1) ∧ (((true = true) ∧ ((((Ref.root (0) (0)) = (Ref.root (0) (0))) ∧ (((FD.list [Sh.int IntKind.i64, Sh.str, Sh.str] nh fh) = (FD.list [Sh.int IntKind.i64, Sh.str, Sh.str] nh fh)) ∧ (true = true))) ∧ ((((IntKind.i64) = (IntKind.i64)) ∧ (((0 : Int)) = ((0 : Int)))) ∧ ((((IntKind.i64) = (IntKind.i64)) ∧ (((0 : Int)) = ((0 : Int)))) ∧ ((((IntKind.i64) = (IntKind.i64)) ∧ ((Int.ofNat y2) = (IntKind.wrap IntKind.i64 (Int.ofNat y1 + (1 : Int))))) ∧ True))))) ∧ True)))))) ∧ (((eventErrC ((FD.list [Sh.int IntKind.i64, Sh.str, Sh.str] (Int.toNat (Int.ofNat y1 - (0 : Int))) fun (i j : Nat) => fh (Int.toNat (0 : Int) + i) j) :: ([FD.int IntKind.i64 (FD.i (fh (Int.toNat (Int.ofNat y1)) (0 : Nat))), FD.str (FD.s (fh (Int.toNat (Int.ofNat y1)) ((0 : Nat) + (1 : Nat)))), FD.str (FD.s (fh (Int.toNat (Int.ofNat y1)) ((0 : Nat) + (1 : Nat) + (1 : Nat))))] ++ []))) = (false)) → False))) ∧ (((decide ((0 : Int) ≤ Int.ofNat y1) && decide (Int.ofNat y1 < (↑nh : Int))) = (false)) → False))) ∧ (((decide ((0 : Int) ≤ (0 : Int)) && (decide ((0 : Int) ≤ Int.ofNat y1) && decide (Int.ofNat y1 ≤ (↑nh : Int)))) = (false)) → False))) ∧ (((decide (Int.ofNat y1 < Int.ofNat nh)) = (false)) → ((((IntKind.i64) = (IntKind.i64)) ∧ ((folI nh fh) = ((0 : Int)))) ∧ ((((IntKind.i64) = (IntKind.i64)) ∧ ((folE nh fh) = ((0 : Int)))) ∧ True))))))))))) := by kernel_rfl
  refine hvc.mpr ?_
  clear hvc
  obtain ⟨hn1, hn2, hev⟩ := evsB_spec hc
  simp
  refine ⟨fun h => ?_, fun h => ⟨rfl, fun y hy he => ⟨fun hlt => ⟨fun _ => ⟨fun _ => ⟨fun _ => ⟨fun e => ?_, fun e => ?_⟩, ?_⟩, hlt⟩, hy⟩, fun hge => ?_⟩⟩⟩
  · rw [folI, folE, if_neg (by omega), if_neg (by omega)]
    exact ⟨rfl, rfl⟩
  · have e : evE fh y ≠ 0 := e
    obtain ⟨q1, q2⟩ := fol_hit (n := nh) (by omega) he hlt rfl e
    exact ⟨q2, q1⟩
  · exact ⟨y + 1, ⟨⟨by omega, firE_up he e⟩, by omega⟩, by rw [wrap_id (by omega) (by omega)]; rfl⟩
  · show (kindsB y fh && (Nat.ble (fh y 1).s.length 20 && Nat.ble (fh y 2).s.length 20)) = true
    have hl := hev y hlt
    simp only [Bool.and_eq_true, Nat.ble_eq]
    exact ⟨kindsB_of (by omega) fun i hi => evE_kind (firE_low he i hi), hl⟩
  · obtain rfl : y = nh := by omega
    obtain ⟨q1, q2⟩ := fol_ok (n := y) (by omega) he
    exact ⟨q2, q1⟩
def eventsS : List PT := [.one (.list [.int .i64, .str, .str])]
def eventsC : List FD → Bool
  | [.list _ _ _] => true
  | _ => false
def eventsR : List FD → List FD
  | [.list _ nh fh] => [.bool (evsB nh fh)]
  | _ => []
def eventsI (nh : Nat) (fh : Nat → Nat → FD) : Nat → AFam := fun i => match i with | 4 => ⟨Nat, fun _ => [{ι := Nat, G := fun x => (x ≤ nh ∧ nh ≤ 102 ∧ (nh ≤ 100 → nh ≤ 20)) ∧ natAll (evAt fh) x = true, μ := fun x => nh - x, tl := fun x => [(0, .one (.fz (.root 0 0) (FD.list [Sh.int IntKind.i64, Sh.str, Sh.str] nh fh))), (2, .one (.bool (.lit false))), (3, .one (.int IntKind.i64 (.tm (Int.ofNat x))))], bl := fun _ => [], nx := (1 : Nat)}]⟩ | _ => ⟨Nat, fun _ => []⟩
theorem events_ok : FnOk (mkR smHb gsF) Try.prog η0 72 (FI.of Try.f72 true) eventsS (.one .bool) eventsC eventsR := by
  refine fnOk_of0 smHb_ok gsF_ok Try.fok72 (fun fds => match fds with | [.list _ nh fh] => eventsI nh fh | _ => alts fun _ => []) ?_
  intro fds hf hc
  obtain ⟨nh, fh, ds0, rfl, gh, hf1⟩ := hf.list
  obtain rfl := hf1.nil
  have hc : (true) = true := hc
  have hvc : (vcF smHb gsF (FI.of Try.f72 true) eventsS (.one .bool) (eventsI nh fh) noR [.list [.int .i64, .str, .str] nh fh] (eventsR [.list [.int .i64, .str, .str] nh fh])) =
    ((true = true) ∧ ((((decide ((20 : Int) < Int.ofNat nh)) = (true)) → ((((decide ((100 : Int) < Int.ofNat nh)) = (true)) → ((((decide ((102 : Int) < Int.ofNat nh)) = (true)) → ((evsB nh fh) = (false))) ∧ (((decide ((102 : Int) < Int.ofNat nh)) = (false)) → (∃ y0 : Nat, ((∃ y1 : Nat, ((((y1 ≤ nh ∧ (nh ≤ (102 : Nat) ∧ (nh ≤ (100 : Nat) → nh ≤ (20 : Nat)))) ∧ ((natAll (evAt fh) y1) = (true))) ∧ True) ∧ (((true = true) ∧ ((((Ref.root (0) (0)) = (Ref.root (0) (0))) ∧ (((FD.list [Sh.int IntKind.i64, Sh.str, Sh.str] nh fh) = (FD.list [Sh.int IntKind.i64, Sh.str, Sh.str] nh fh)) ∧ (true = true))) ∧ ((false = false) ∧ ((((IntKind.i64) = (IntKind.i64)) ∧ ((Int.ofNat y1) = ((0 : Int)))) ∧ True)))) ∧ True))) ∧ (∀ y1 : Nat, (((y1 ≤ nh ∧ (nh ≤ (102 : Nat) ∧ (nh ≤ (100 : Nat) → nh ≤ (20 : Nat)))) ∧ ((natAll (evAt fh) y1) = (true))) → ((((decide (Int.ofNat y1 < Int.ofNat nh)) = (true)) → ((((decide ((0 : Int) ≤ Int.ofNat y1) && decide (Int.ofNat y1 < (↑nh : Int))) = (true)) → ((((decide ((20 : Int) < Int.ofNat (List.length (FD.s (fh (Int.toNat (Int.ofNat y1)) ((0 : Nat) + Field.offset { name := "Part", type := (9 : Nat), offset := (1 : Nat), embedded := false, tag := "", pkgPath := "", byteOffset := (8 : Nat) })))))) = (true)) → ((evsB nh fh) = (false))) ∧ (((decide ((20 : Int) < Int.ofNat (List.length (FD.s (fh (Int.toNat (Int.ofNat y1)) ((0 : Nat) + Field.offset { name := "Part", type := (9 : Nat), offset := (1 : Nat), embedded := false, tag := "", pkgPath := "", byteOffset := (8 : Nat) })))))) = (false)) → ((((decide ((0 : Int) ≤ Int.ofNat y1) && decide (Int.ofNat y1 < (↑nh : Int))) = (true)) → ((((decide ((20 : Int) < Int.ofNat (List.length (FD.s (fh (Int.toNat (Int.ofNat y1)) ((0 : Nat) + Field.offset { name := "Batch", type := (9 : Nat), offset := (2 : Nat), embedded := false, tag := "", pkgPath := "", byteOffset := (24 : Nat) })))))) = (true)) → ((evsB nh fh) = (false))) ∧ (((decide ((20 : Int) < Int.ofNat (List.length (FD.s (fh (Int.toNat (Int.ofNat y1)) ((0 : Nat) + Field.offset { name := "Batch", type := (9 : Nat), offset := (2 : Nat), embedded := false, tag := "", pkgPath := "", byteOffset := (24 : Nat) })))))) = (false)) → (∃ y2 : Nat, ((((y2 ≤ nh ∧ (nh ≤ (102 : Nat) ∧ (nh ≤ (100 : Nat) → nh ≤ (20 : Nat)))) ∧ ((natAll (evAt fh) y2) = (true))) ∧ nh - y2 < nh - y1) ∧ (((true = true) ∧ ((((Ref.root (0) (0)) = (Ref.root (0) (0))) ∧ (((FD.list [Sh.int IntKind.i64, Sh.str, Sh.str] nh fh) = (FD.list [Sh.int IntKind.i64, Sh.str, Sh.str] nh fh)) ∧ (true = true))) ∧ ((false = false) ∧ ((((IntKind.i64) = (IntKind.i64)) ∧ ((Int.ofNat y2) = (IntKind.wrap IntKind.i64 (Int.ofNat y1 + (1 : Int))))) ∧ True)))) ∧ True)))))) ∧ (((decide ((0 : Int) ≤ Int.ofNat y1) && decide (Int.ofNat y1 < (↑nh : Int))) = (false)) → False))))) ∧ (((decide ((0 : Int) ≤ Int.ofNat y1) && decide (Int.ofNat y1 < (↑nh : Int))) = (false)) → False))) ∧ (((decide (Int.ofNat y1 < Int.ofNat nh)) = (false)) → ((evsB nh fh) = (true))))))))))) ∧ (((decide ((100 : Int) < Int.ofNat nh)) = (false)) → ((evsB nh fh) = (false))))) ∧ (((decide ((20 : Int) < Int.ofNat nh)) = (false)) → ((((decide ((102 : Int) < Int.ofNat nh)) = (true)) → ((evsB nh fh) = (false))) ∧ (((decide ((102 : Int) < Int.ofNat nh)) = (false)) → (∃ y0 : Nat, ((∃ y1 : Nat, ((((y1 ≤ nh ∧ (nh ≤ (102 : Nat) ∧ (nh ≤ (100 : Nat) → nh ≤ (20 : Nat)))) ∧ ((natAll (evAt fh) y1) = (true))) ∧ True) ∧ (((true = true) ∧ ((((Ref.root (0) (0)) = (Ref.root (0) (0))) ∧ (((FD.list [Sh.int IntKind.i64, Sh.str, Sh.str] nh fh) = (FD.list [Sh.int IntKind.i64, Sh.str, Sh.str] nh fh)) ∧ (true = true))) ∧ ((false = false) ∧ ((((IntKind.i64) = (IntKind.i64)) ∧ ((Int.ofNat y1) = ((0 : Int)))) ∧ True)))) ∧ True))) ∧ (∀ y1 : Nat, (((y1 ≤ nh ∧ (nh ≤ (102 : Nat) ∧ (nh ≤ (100 : Nat) → nh ≤ (20 : Nat)))) ∧ ((natAll (evAt fh) y1) = (true))) → ((((decide (Int.ofNat y1 < Int.ofNat nh)) = (true)) → ((((decide ((0 : Int) ≤ Int.ofNat y1) && decide (Int.ofNat y1 < (↑nh : Int))) = (true)) → ((((decide ((20 : Int) < Int.ofNat (List.length (FD.s (fh (Int.toNat (Int.ofNat y1)) ((0 : Nat) + Field.offset { name := "Part", type := (9 : Nat), offset := (1 : Nat), embedded := false, tag := "", pkgPath := "", byteOffset := (8 : Nat) })))))) = (true)) → ((evsB nh fh) = (false))) ∧ (((decide ((20 : Int) < Int.ofNat (List.length (FD.s (fh (Int.toNat (Int.ofNat y1)) ((0 : Nat) + Field.offset { name := "Part", type := (9 : Nat), offset := (1 : Nat), embedded := false, tag := "", pkgPath := "", byteOffset := (8 : Nat) })))))) = (false)) → ((((decide ((0 : Int) ≤ Int.ofNat y1) && decide (Int.ofNat y1 < (↑nh : Int))) = (true)) → ((((decide ((20 : Int) < Int.ofNat (List.length (FD.s (fh (Int.toNat (Int.ofNat y1)) ((0 : Nat) + Field.offset { name := "Batch", type := (9 : Nat), offset := (2 : Nat), embedded := false, tag := "", pkgPath := "", byteOffset := (24 : Nat) })))))) = (true)) → ((evsB nh fh) = (false))) ∧ (((decide ((20 : Int) < Int.ofNat (List.length (FD.s (fh (Int.toNat (Int.ofNat y1)) ((0 : Nat) + Field.offset { name := "Batch", type := (9 : Nat), offset := (2 : Nat), embedded := false, tag := "", pkgPath := "", byteOffset := (24 : Nat) })))))) = (false)) → (∃ y2 : Nat, ((((y2 ≤ nh ∧ (nh ≤ (102 : Nat) ∧ (nh ≤ (100 : Nat) → nh ≤ (20 : Nat)))) ∧ ((natAll (evAt fh) y2) = (true))) ∧ nh - y2 < nh - y1) ∧ (((true = true) ∧ ((((Ref.root (0) (0)) = (Ref.root (0) (0))) ∧ (((FD.list [Sh.int IntKind.i64, Sh.str, Sh.str] nh fh) = (FD.list [Sh.int IntKind.i64, Sh.str, Sh.str] nh fh)) ∧ (true = true))) ∧ ((false = false) ∧ ((((IntKind.i64) = (IntKind.i64)) ∧ ((Int.ofNat y2) = (IntKind.wrap IntKind.i64 (Int.ofNat y1 + (1 : Int))))) ∧ True)))) ∧ True)))))) ∧ (((decide ((0 : Int) ≤ Int.ofNat y1) && decide (Int.ofNat y1 < (↑nh : Int))) = (false)) → False))))) ∧ (((decide ((0 : Int) ≤ Int.ofNat y1) && decide (Int.ofNat y1 < (↑nh : Int))) = (false)) → False))) ∧ (((decide (Int.ofNat y1 < Int.ofNat nh)) = (false)) → ((evsB nh fh) = (true))))))))))))) := by kernel_rfl
  refine hvc.mpr ?_
  clear hvc
  simp
  refine ⟨fun h20 => ⟨fun h100 => ⟨fun h => evsB_no (by omega), fun h102 => ⟨⟨⟨by omega, fun h => by omega⟩, rfl⟩, ?_⟩⟩, fun h => evsB_no (by omega)⟩, fun h20 => ⟨fun h => by omega, fun h102 => ⟨⟨⟨by omega, fun h => by omega⟩, rfl⟩, ?_⟩⟩⟩
  all_goals
    intro y hy k1 k2 ha
    refine ⟨fun hlt => ⟨fun _ => ⟨fun h => evsB_not hlt (by omega), fun h1 => ⟨fun _ => ⟨fun h => evsB_not hlt (by omega), fun h2 => ⟨y + 1, ⟨⟨⟨by omega, k1, k2⟩, allN_up ha ?_⟩, by omega⟩, by rw [wrap_id (by omega) (by omega)]; rfl⟩⟩, hlt⟩⟩, hlt⟩, fun hge => ?_⟩
    · simp only [evAt, Bool.and_eq_true, Nat.ble_eq]
      omega
    · obtain rfl : y = nh := by omega
      simp only [evsB, ha, Bool.and_true, Bool.or_eq_true, Bool.and_eq_true, Nat.ble_eq]
      omega
end
end Go.Ex

