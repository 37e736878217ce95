/-
  Contracts: the document's checks of a rack and a flow.
-/
/-
  Contracts: the document's check of a flow; its period.
-/
/-
  The law RackChecks, as the executor's contract.
-/
import Derived.Test.YtdpabnfcfakjeaaLwSp

namespace Go.Ex
open Go Go.Proofs Go.RowKit
noncomputable section
set_option maxRecDepth 1000000

def refRackS : List PT := [.agg [.int .i64, .int .i64, .int .i64, .int .i64]]
def refRackC : List FD → Bool
  | [.int _ _, .int _ _, .int _ _, .int _ _] => true
  | _ => false
def refRackR : List FD → List FD
  | [.int _ st, .int _ pl, .int _ ho, .int _ ge] => [.int .i64 (rackE st pl ho ge)]
  | _ => []
def refRackI (_st : Int) (_pl : Int) (_ho : Int) (_ge : Int) : Nat → AFam := alts (fun _ => [])
theorem refRack_ok : FnOk (mkR smE gs3) Try.prog η0 29 (FI.of Try.f29 true) refRackS (.one (.int .i64)) refRackC refRackR := by
  refine fnOk_of0 smE_ok gs3_ok Try.fok29 (fun fds => match fds with | [.int _ st, .int _ pl, .int _ ho, .int _ ge] => refRackI st pl ho ge | _ => alts fun _ => []) ?_
  intro fds hf hc
  obtain ⟨st, ds0, rfl, hf1⟩ := hf.int
  obtain ⟨pl, ds1, rfl, hf2⟩ := hf1.int
  obtain ⟨ho, ds2, rfl, hf3⟩ := hf2.int
  obtain ⟨ge, ds3, rfl, hf4⟩ := hf3.int
  obtain rfl := hf4.nil
  have hc : (true) = true := hc
  have hvc : (vcF smE gs3 (FI.of Try.f29 true) refRackS (.one (.int .i64)) (refRackI st pl ho ge) noR [.int .i64 st, .int .i64 pl, .int .i64 ho, .int .i64 ge] (refRackR [.int .i64 st, .int .i64 pl, .int .i64 ho, .int .i64 ge])) =
    ((true = true) ∧ (((true = true) → ((((decide ((1 : Int) ≤ st) && decide (st ≤ (24 : Int))) = (true)) → (((true = true) → ((((decide ((1 : Int) ≤ pl) && decide (pl ≤ (8 : Int))) = (true)) → (((true = true) → ((((decide ((1 : Int) ≤ ho) && decide (ho ≤ (12 : Int))) = (true)) → (((true = true) → ((((decide ((0 : Int) ≤ ge) && decide (ge ≤ IntKind.wrap IntKind.i64 (ho - (1 : Int)))) = (false)) → (((IntKind.i64) = (IntKind.i64)) ∧ ((rackE st pl ho ge) = ((2 : Int))))) ∧ (((decide ((0 : Int) ≤ ge) && decide (ge ≤ IntKind.wrap IntKind.i64 (ho - (1 : Int)))) = (true)) → ((((!decide (pl = (0 : Int))) = (true)) → ((((decide (Int.tmod st pl = (0 : Int))) = (false)) → (((IntKind.i64) = (IntKind.i64)) ∧ ((rackE st pl ho ge) = ((13 : Int))))) ∧ (((decide (Int.tmod st pl = (0 : Int))) = (true)) → (((IntKind.i64) = (IntKind.i64)) ∧ ((rackE st pl ho ge) = ((0 : Int))))))) ∧ (((!decide (pl = (0 : Int))) = (false)) → False))))) ∧ ((true = false) → False))) ∧ (((decide ((1 : Int) ≤ ho) && decide (ho ≤ (12 : Int))) = (false)) → (((IntKind.i64) = (IntKind.i64)) ∧ ((rackE st pl ho ge) = ((2 : Int))))))) ∧ ((true = false) → False))) ∧ (((decide ((1 : Int) ≤ pl) && decide (pl ≤ (8 : Int))) = (false)) → (((IntKind.i64) = (IntKind.i64)) ∧ ((rackE st pl ho ge) = ((2 : Int))))))) ∧ ((true = false) → False))) ∧ (((decide ((1 : Int) ≤ st) && decide (st ≤ (24 : Int))) = (false)) → (((IntKind.i64) = (IntKind.i64)) ∧ ((rackE st pl ho ge) = ((2 : Int))))))) ∧ ((true = false) → False))) := by kernel_rfl
  refine hvc.mpr ?_
  clear hvc
  simp
  simp only [rackE]
  refine ⟨fun a b => ⟨fun c d => ⟨fun e f => ?_, fun g => by rw [if_neg (by omega)]⟩, fun g => by rw [if_neg (by omega)]⟩, fun g => by rw [if_neg (by omega)]⟩
  rw [wrap_id (by omega) (by omega)]
  refine ⟨fun g => by rw [if_neg (by omega)], fun g1 g2 => ⟨fun _ => ⟨fun h => by rw [if_pos (by omega), if_neg h], fun h => by rw [if_pos (by omega), if_pos h]⟩, by omega⟩⟩
def refPartS : List PT := [.agg [.int .i64, .int .i64, .int .i64, .int .i64], .agg [.int .i64, .int .i64]]
def refPartC : List FD → Bool
  | [.int _ _, .int _ _, .int _ _, .int _ _, .int _ _, .int _ _] => true
  | _ => false
def refPartR : List FD → List FD
  | [.int _ _, .int _ pl, .int _ ho, .int _ _, .int _ p, .int _ h] => [.int .i64 (partE pl ho p h)]
  | _ => []
def refPartI (_st : Int) (_pl : Int) (_ho : Int) (_ge : Int) (_p : Int) (_h : Int) : Nat → AFam := alts (fun _ => [])
theorem refPart_ok : FnOk (mkR smE gs3) Try.prog η0 43 (FI.of Try.f43 true) refPartS (.one (.int .i64)) refPartC refPartR := by
  refine fnOk_of0 smE_ok gs3_ok Try.fok43 (fun fds => match fds with | [.int _ st, .int _ pl, .int _ ho, .int _ ge, .int _ p, .int _ h] => refPartI st pl ho ge p h | _ => alts fun _ => []) ?_
  intro fds hf hc
  obtain ⟨st, ds0, rfl, hf1⟩ := hf.int
  obtain ⟨pl, ds1, rfl, hf2⟩ := hf1.int
  obtain ⟨ho, ds2, rfl, hf3⟩ := hf2.int
  obtain ⟨ge, ds3, rfl, hf4⟩ := hf3.int
  obtain ⟨p, ds4, rfl, hf5⟩ := hf4.int
  obtain ⟨h, ds5, rfl, hf6⟩ := hf5.int
  obtain rfl := hf6.nil
  have hc : (true) = true := hc
  have hvc : (vcF smE gs3 (FI.of Try.f43 true) refPartS (.one (.int .i64)) (refPartI st pl ho ge p h) noR [.int .i64 st, .int .i64 pl, .int .i64 ho, .int .i64 ge, .int .i64 p, .int .i64 h] (refPartR [.int .i64 st, .int .i64 pl, .int .i64 ho, .int .i64 ge, .int .i64 p, .int .i64 h])) =
    ((true = true) ∧ (((true = true) → ((((decide ((0 : Int) ≤ p) && decide (p ≤ IntKind.wrap IntKind.i64 (pl - (1 : Int)))) = (true)) → (((true = true) → ((((decide ((0 : Int) ≤ h) && decide (h ≤ IntKind.wrap IntKind.i64 (ho - (1 : Int)))) = (false)) → (((IntKind.i64) = (IntKind.i64)) ∧ ((partE pl ho p h) = ((6 : Int))))) ∧ (((decide ((0 : Int) ≤ h) && decide (h ≤ IntKind.wrap IntKind.i64 (ho - (1 : Int)))) = (true)) → (((IntKind.i64) = (IntKind.i64)) ∧ ((partE pl ho p h) = ((0 : Int))))))) ∧ ((true = false) → False))) ∧ (((decide ((0 : Int) ≤ p) && decide (p ≤ IntKind.wrap IntKind.i64 (pl - (1 : Int)))) = (false)) → (((IntKind.i64) = (IntKind.i64)) ∧ ((partE pl ho p h) = ((6 : Int))))))) ∧ ((true = false) → False))) := by kernel_rfl
  refine hvc.mpr ?_
  clear hvc
  simp
  simp only [partE]
  refine ⟨fun a b => ⟨fun g => by rw [if_neg (by omega)], fun c d => by rw [if_pos ⟨⟨a, b⟩, c, d⟩]⟩, fun g => by rw [if_neg (by omega)]⟩
def narrowB (n : Nat) (f : Nat → Nat → FD) : Bool := Nat.ble n 26 && !(anyN (fun i => Nat.blt 14 (f i 0).ln) n 0)
def narrowS : List PT := [.one (.list [.list [.int .i64]])]
def narrowC : List FD → Bool
  | [.list _ _ _] => true
  | _ => false
def narrowR : List FD → List FD
  | [.list _ nfl ffl] => [.bool (narrowB nfl ffl)]
  | _ => []
def narrowI (nfl : Nat) (ffl : Nat → Nat → FD) : Nat → AFam := fun i => match i with | 4 => ⟨Nat, fun _ => [{ι := Nat, G := fun x => x ≤ nfl ∧ anyN (fun i => Nat.blt 14 (ffl i 0).ln) (nfl - x) x = anyN (fun i => Nat.blt 14 (ffl i 0).ln) nfl 0, μ := fun x => nfl - x, tl := fun x => [(0, .one (.fz (.root 0 0) (FD.list [Sh.list [Sh.int IntKind.i64]] nfl ffl))), (3, .one (.int IntKind.i64 (.tm (Int.ofNat x))))], bl := fun _ => [], nx := (1 : Nat)}]⟩ | _ => ⟨Nat, fun _ => []⟩
theorem narrow_ok : FnOk (mkR smE gs3) Try.prog η0 41 (FI.of Try.f41 true) narrowS (.one .bool) narrowC narrowR := by
  refine fnOk_of0 smE_ok gs3_ok Try.fok41 (fun fds => match fds with | [.list _ nfl ffl] => narrowI nfl ffl | _ => alts fun _ => []) ?_
  intro fds hf hc
  obtain ⟨nfl, ffl, ds0, rfl, gfl, hf1⟩ := hf.list
  obtain rfl := hf1.nil
  have hc : (true) = true := hc
  have hvc : (vcF smE gs3 (FI.of Try.f41 true) narrowS (.one .bool) (narrowI nfl ffl) noR [.list [.list [.int .i64]] nfl ffl] (narrowR [.list [.list [.int .i64]] nfl ffl])) =
    ((true = true) ∧ ((((decide ((26 : Int) < Int.ofNat nfl)) = (true)) → ((narrowB nfl ffl) = (false))) ∧ (((decide ((26 : Int) < Int.ofNat nfl)) = (false)) → (∃ y0 : Nat, ((∃ y1 : Nat, (((y1 ≤ nfl ∧ ((anyN (fun (i : Nat) => Nat.blt (14 : Nat) (FD.ln (ffl i (0 : Nat)))) (nfl - y1) y1) = (anyN (fun (i : Nat) => Nat.blt (14 : Nat) (FD.ln (ffl i (0 : Nat)))) nfl (0 : Nat)))) ∧ True) ∧ (((true = true) ∧ ((((Ref.root (0) (0)) = (Ref.root (0) (0))) ∧ (((FD.list [Sh.list [Sh.int IntKind.i64]] nfl ffl) = (FD.list [Sh.list [Sh.int IntKind.i64]] nfl ffl)) ∧ (true = true))) ∧ ((((IntKind.i64) = (IntKind.i64)) ∧ ((Int.ofNat y1) = ((0 : Int)))) ∧ True))) ∧ True))) ∧ (∀ y1 : Nat, ((y1 ≤ nfl ∧ ((anyN (fun (i : Nat) => Nat.blt (14 : Nat) (FD.ln (ffl i (0 : Nat)))) (nfl - y1) y1) = (anyN (fun (i : Nat) => Nat.blt (14 : Nat) (FD.ln (ffl i (0 : Nat)))) nfl (0 : Nat)))) → ((((decide (Int.ofNat y1 < Int.ofNat nfl)) = (true)) → ((((decide ((0 : Int) ≤ Int.ofNat y1) && decide (Int.ofNat y1 < (↑nfl : Int))) = (true)) → ((((decide ((14 : Int) < Int.ofNat (FD.ln (ffl (Int.toNat (Int.ofNat y1)) (0 : Nat))))) = (true)) → ((narrowB nfl ffl) = (false))) ∧ (((decide ((14 : Int) < Int.ofNat (FD.ln (ffl (Int.toNat (Int.ofNat y1)) (0 : Nat))))) = (false)) → (∃ y2 : Nat, (((y2 ≤ nfl ∧ ((anyN (fun (i : Nat) => Nat.blt (14 : Nat) (FD.ln (ffl i (0 : Nat)))) (nfl - y2) y2) = (anyN (fun (i : Nat) => Nat.blt (14 : Nat) (FD.ln (ffl i (0 : Nat)))) nfl (0 : Nat)))) ∧ nfl - y2 < nfl - y1) ∧ (((true = true) ∧ ((((Ref.root (0) (0)) = (Ref.root (0) (0))) ∧ (((FD.list [Sh.list [Sh.int IntKind.i64]] nfl ffl) = (FD.list [Sh.list [Sh.int IntKind.i64]] nfl ffl)) ∧ (true = true))) ∧ ((((IntKind.i64) = (IntKind.i64)) ∧ ((Int.ofNat y2) = (IntKind.wrap IntKind.i64 (Int.ofNat y1 + (1 : Int))))) ∧ True))) ∧ True)))))) ∧ (((decide ((0 : Int) ≤ Int.ofNat y1) && decide (Int.ofNat y1 < (↑nfl : Int))) = (false)) → False))) ∧ (((decide (Int.ofNat y1 < Int.ofNat nfl)) = (false)) → ((narrowB nfl ffl) = (true))))))))))) := by kernel_rfl
  refine hvc.mpr ?_
  clear hvc
  have hl := gfl.len
  have hl' : maxLen = 9223372036854775807 := rfl
  simp
  refine ⟨fun h => ?_, fun h x hx he => ⟨fun hl => ⟨fun _ => ⟨fun ho => ?_, fun ho => ⟨x + 1, ⟨⟨by omega, ?_⟩, by omega⟩, ?_⟩⟩, hl⟩, fun hl => ?_⟩⟩
  · rw [narrowB, show Nat.ble nfl 26 = false by rw [Bool.eq_false_iff]; exact fun h' => by have := Nat.le_of_ble_eq_true h'; omega]
    rfl
  · rw [narrowB, ← he, show nfl - x = nfl - (x + 1) + 1 by omega, anyN, show Nat.blt 14 (ffl x 0).ln = true from Nat.ble_eq_true_of_le (by omega)]
    simp
  · rw [← he, show nfl - x = nfl - (x + 1) + 1 by omega, anyN, show Nat.blt 14 (ffl x 0).ln = false by rw [Bool.eq_false_iff]; exact fun h' => by have := Nat.le_of_ble_eq_true h'; omega]
    simp
  · rw [wrap_id (by omega) (by omega)]
    rfl
  · rw [narrowB, ← he, show nfl - x = 0 by omega, show Nat.ble nfl 26 = true from Nat.ble_eq_true_of_le (by omega)]
    rfl
def copyListsS : List PT := [.one (.list [.list [.int .i64]])]
def copyListsC : List FD → Bool
  | [.list _ nl fl] => Nat.ble nl 1000000 && natAll (fun i => Nat.ble (fl i 0).ln 1000000) nl
  | _ => false
def copyListsR : List FD → List FD
  | [.list _ nl fl] => [.list [.list [.int .i64]] nl fl]
  | _ => []
def copyListsI (nl : Nat) (fl : Nat → Nat → FD) : Nat → AFam := fun i => match i with | 3 => ⟨Nat, fun _ => [{ι := Nat, G := fun x => x = 0, μ := fun x => nl - x, tl := fun x => [(0, .one (.fz (.root 0 0) (FD.list [Sh.list [Sh.int IntKind.i64]] nl fl))), (3, .one (.slice none 0 (.known 0))), (4, .one (.int IntKind.i64 (.tm (Int.ofNat x))))], bl := fun _ => [], nx := (1 : Nat)}, {ι := Nat, G := fun x => 1 ≤ x ∧ x ≤ nl, μ := fun x => nl - x, tl := fun x => [(0, .one (.fz (.root 0 0) (FD.list [Sh.list [Sh.int IntKind.i64]] nl fl))), (3, .one (.own 1 x)), (4, .one (.int IntKind.i64 (.tm (Int.ofNat x))))], bl := fun x => [(1, .row 22 [.list [.int .i64]] x fl)], nx := 2}]⟩ | _ => ⟨Nat, fun _ => []⟩
theorem copyLists_ok : FnOk (mkR smE gs3) Try.prog η0 33 (FI.of Try.f33 false) copyListsS (.one (.list [.list [.int .i64]])) copyListsC copyListsR := by
  refine fnOk_of0 smE_ok gs3_ok Try.fok33 (fun fds => match fds with | [.list _ nl fl] => copyListsI nl fl | _ => alts fun _ => []) ?_
  intro fds hf hc
  obtain ⟨nl, fl, ds0, rfl, gl, hf1⟩ := hf.list
  obtain rfl := hf1.nil
  have hc : (Nat.ble nl 1000000 && natAll (fun i => Nat.ble (fl i 0).ln 1000000) nl) = true := hc
  have hvc : (vcF smE gs3 (FI.of Try.f33 false) copyListsS (.one (.list [.list [.int .i64]])) (copyListsI nl fl) noR [.list [.list [.int .i64]] nl fl] (copyListsR [.list [.list [.int .i64]] nl fl])) =
    ((true = true) ∧ (∃ y0 : Nat, (((∃ y1 : Nat, ((((y1) = ((0 : Nat))) ∧ True) ∧ (((true = true) ∧ ((((Ref.root (0) (0)) = (Ref.root (0) (0))) ∧ (((FD.list [Sh.list [Sh.int IntKind.i64]] nl fl) = (FD.list [Sh.list [Sh.int IntKind.i64]] nl fl)) ∧ (true = true))) ∧ (((((0 : Nat)) = ((0 : Nat))) ∧ (((0 : Nat)) = ((0 : Nat)))) ∧ ((((IntKind.i64) = (IntKind.i64)) ∧ ((Int.ofNat y1) = ((0 : Int)))) ∧ True)))) ∧ True))) ∨ (∃ y1 : Nat, ((((1 : Nat) ≤ y1 ∧ y1 ≤ nl) ∧ True) ∧ (((true = true) ∧ ((((Ref.root (0) (0)) = (Ref.root (0) (0))) ∧ (((FD.list [Sh.list [Sh.int IntKind.i64]] nl fl) = (FD.list [Sh.list [Sh.int IntKind.i64]] nl fl)) ∧ (true = true))) ∧ (False ∧ ((((IntKind.i64) = (IntKind.i64)) ∧ ((Int.ofNat y1) = ((0 : Int)))) ∧ True)))) ∧ (False ∧ True))))) ∧ ((∀ y1 : Nat, (((y1) = ((0 : Nat))) → ((((decide (Int.ofNat y1 < Int.ofNat nl)) = (true)) → ((((decide ((0 : Int) ≤ Int.ofNat y1) && decide (Int.ofNat y1 < (↑nl : Int))) = (true)) → ((((copyIntsC [FD.list [Sh.int IntKind.i64] (FD.ln (fl (Int.toNat (Int.ofNat y1)) (0 : Nat))) (FD.fn (fl (Int.toNat (Int.ofNat y1)) (0 : Nat)))]) = (true)) → (((true = true) → ((∃ y2 : Nat, ((((y2) = ((0 : Nat))) ∧ nl - y2 < nl - y1) ∧ (((true = true) ∧ ((((Ref.root (0) (0)) = (Ref.root (0) (0))) ∧ (((FD.list [Sh.list [Sh.int IntKind.i64]] nl fl) = (FD.list [Sh.list [Sh.int IntKind.i64]] nl fl)) ∧ (true = true))) ∧ (False ∧ ((((IntKind.i64) = (IntKind.i64)) ∧ ((Int.ofNat y2) = (IntKind.wrap IntKind.i64 (Int.ofNat y1 + (1 : Int))))) ∧ True)))) ∧ True))) ∨ (∃ y2 : Nat, ((((1 : Nat) ≤ y2 ∧ y2 ≤ nl) ∧ nl - y2 < nl - y1) ∧ (((true = true) ∧ ((((Ref.root (0) (0)) = (Ref.root (0) (0))) ∧ (((FD.list [Sh.list [Sh.int IntKind.i64]] nl fl) = (FD.list [Sh.list [Sh.int IntKind.i64]] nl fl)) ∧ (true = true))) ∧ ((((1, 3) ∈ ([(1, 3)] : List (Nat × Nat))) ∧ ((y2) = ((0 : Nat) + (1 : Nat)))) ∧ ((((IntKind.i64) = (IntKind.i64)) ∧ ((Int.ofNat y2) = (IntKind.wrap IntKind.i64 (Int.ofNat y1 + (1 : Int))))) ∧ True)))) ∧ (((((22 : TypeId)) = ((22 : TypeId))) ∧ ((([Sh.list [Sh.int IntKind.i64]]) = ([Sh.list [Sh.int IntKind.i64]])) ∧ (((y2) = ((0 : Nat) + (1 : Nat))) ∧ (∀ y3 : Nat, (y3 < y2 → (∀ y4 : Nat, (y4 < List.length [Sh.list [Sh.int IntKind.i64]] → ((fl y3 y4) = (atFD [FD.list [Sh.int IntKind.i64] (FD.ln (fl (Int.toNat (Int.ofNat y1)) (0 : Nat))) (FD.fn (fl (Int.toNat (Int.ofNat y1)) (0 : Nat)))] y4))))))))) ∧ True)))))) ∧ ((true = false) → False))) ∧ (((copyIntsC [FD.list [Sh.int IntKind.i64] (FD.ln (fl (Int.toNat (Int.ofNat y1)) (0 : Nat))) (FD.fn (fl (Int.toNat (Int.ofNat y1)) (0 : Nat)))]) = (false)) → False))) ∧ (((decide ((0 : Int) ≤ Int.ofNat y1) && decide (Int.ofNat y1 < (↑nl : Int))) = (false)) → False))) ∧ (((decide (Int.ofNat y1 < Int.ofNat nl)) = (false)) → ((nl) = ((0 : Nat))))))) ∧ (∀ y1 : Nat, (((1 : Nat) ≤ y1 ∧ y1 ≤ nl) → ((((decide (Int.ofNat y1 < Int.ofNat nl)) = (true)) → ((((decide ((0 : Int) ≤ Int.ofNat y1) && decide (Int.ofNat y1 < (↑nl : Int))) = (true)) → ((((copyIntsC [FD.list [Sh.int IntKind.i64] (FD.ln (fl (Int.toNat (Int.ofNat y1)) (0 : Nat))) (FD.fn (fl (Int.toNat (Int.ofNat y1)) (0 : Nat)))]) = (true)) → ((((Nat.beq y1 y1 && (true && Nat.ble (y1 + (1 : Nat)) (1000000 : Nat))) = (true)) → ((∃ y2 : Nat, ((((y2) = ((0 : Nat))) ∧ nl - y2 < nl - y1) ∧ (((true = true) ∧ ((((Ref.root (0) (0)) = (Ref.root (0) (0))) ∧ (((FD.list [Sh.list [Sh.int IntKind.i64]] nl fl) = (FD.list [Sh.list [Sh.int IntKind.i64]] nl fl)) ∧ (true = true))) ∧ (False ∧ ((((IntKind.i64) = (IntKind.i64)) ∧ ((Int.ofNat y2) = (IntKind.wrap IntKind.i64 (Int.ofNat y1 + (1 : Int))))) ∧ True)))) ∧ True))) ∨ (∃ y2 : Nat, ((((1 : Nat) ≤ y2 ∧ y2 ≤ nl) ∧ nl - y2 < nl - y1) ∧ (((true = true) ∧ ((((Ref.root (0) (0)) = (Ref.root (0) (0))) ∧ (((FD.list [Sh.list [Sh.int IntKind.i64]] nl fl) = (FD.list [Sh.list [Sh.int IntKind.i64]] nl fl)) ∧ (true = true))) ∧ ((((1, 4) ∈ ([(1, 4)] : List (Nat × Nat))) ∧ ((y2) = (y1 + (1 : Nat)))) ∧ ((((IntKind.i64) = (IntKind.i64)) ∧ ((Int.ofNat y2) = (IntKind.wrap IntKind.i64 (Int.ofNat y1 + (1 : Int))))) ∧ True)))) ∧ (((((22 : TypeId)) = ((22 : TypeId))) ∧ ((([Sh.list [Sh.int IntKind.i64]]) = ([Sh.list [Sh.int IntKind.i64]])) ∧ (((y2) = (y1 + (1 : Nat))) ∧ (∀ y3 : Nat, (y3 < y2 → (∀ y4 : Nat, (y4 < List.length [Sh.list [Sh.int IntKind.i64]] → ((fl y3 y4) = (bif Nat.blt y3 y1 then fl y3 y4 else atFD [FD.list [Sh.int IntKind.i64] (FD.ln (fl (Int.toNat (Int.ofNat y1)) (0 : Nat))) (FD.fn (fl (Int.toNat (Int.ofNat y1)) (0 : Nat)))] y4))))))))) ∧ True)))))) ∧ (((Nat.beq y1 y1 && (true && Nat.ble (y1 + (1 : Nat)) (1000000 : Nat))) = (false)) → False))) ∧ (((copyIntsC [FD.list [Sh.int IntKind.i64] (FD.ln (fl (Int.toNat (Int.ofNat y1)) (0 : Nat))) (FD.fn (fl (Int.toNat (Int.ofNat y1)) (0 : Nat)))]) = (false)) → False))) ∧ (((decide ((0 : Int) ≤ Int.ofNat y1) && decide (Int.ofNat y1 < (↑nl : Int))) = (false)) → False))) ∧ (((decide (Int.ofNat y1 < Int.ofNat nl)) = (false)) → ((1 : Nat) ≤ (1 : Nat) ∧ ((([Sh.list [Sh.int IntKind.i64]]) = ([Sh.list [Sh.int IntKind.i64]])) ∧ (((y1) = (y1)) ∧ (((nl) = (y1)) ∧ (∀ y2 : Nat, (y2 < y1 → (∀ y3 : Nat, (y3 < List.length [Sh.list [Sh.int IntKind.i64]] → ((fl y2 y3) = (fl y2 y3)))))))))))))))))) := by kernel_rfl
  refine hvc.mpr ?_
  clear hvc
  simp only [Bool.and_eq_true] at hc
  have hc1 := Nat.le_of_ble_eq_true hc.1
  have hc2 : ∀ i, i < nl → copyIntsC [.list [.int .i64] (fl i 0).ln (fl i 0).fn] = true := fun i hi => natAll_spec hc.2 i hi
  have hex : ∀ i, i < nl → FD.list [Sh.int IntKind.i64] (fl i 0).ln (fl i 0).fn = fl i 0 := fun i hi => (gl.at hi (by simp : 0 < [Sh.list [Sh.int IntKind.i64]].length)).1
  simp
  refine ⟨fun h => ⟨fun _ => ⟨fun _ => ⟨1, ⟨⟨by omega, by omega⟩, by omega⟩, ⟨rfl, rfl⟩, rfl, fun y hy => ?_⟩, hc2 0 h⟩, h⟩, fun x h1 h2 => ⟨fun h => ⟨fun _ => ⟨fun _ => ⟨fun _ => ⟨x + 1, ⟨⟨by omega, by omega⟩, by omega⟩, ⟨rfl, ?_⟩, rfl, fun y hy => ?_⟩, by omega⟩, hc2 x h⟩, h⟩, fun h => by omega⟩⟩
  · obtain rfl : y = 0 := by omega
    exact (hex 0 h).symm
  · rw [wrap_id (by omega) (by omega)]
    rfl
  · by_cases e : y = x
    · subst e
      rw [show Nat.blt y y = false by rw [Bool.eq_false_iff]; exact fun h => by have := Nat.le_of_ble_eq_true h; omega]
      exact (hex y h).symm
    · rw [show Nat.blt y x = true from Nat.ble_eq_true_of_le (by omega)]
      rfl
end
end Go.Ex


namespace Go.Ex
open Go Go.Proofs Go.RowKit
noncomputable section
set_option maxRecDepth 1000000

def smG : T Smf := (T.set (T.set (T.set smE 29 (some (gFd refRackS (.one (.int .i64)) refRackC refRackR))) 43 (some (gFd refPartS (.one (.int .i64)) refPartC refPartR))) 41 (some (gFd narrowS (.one .bool) narrowC narrowR)))
theorem smG_ok : Tab SmOk smG := (Tab.set (Tab.set (Tab.set smE_ok (by kernel_rfl) (smOk_of smE_ok gs3_ok refRack_ok rfl)) (by kernel_rfl) (smOk_of smE_ok gs3_ok refPart_ok rfl)) (by kernel_rfl) (smOk_of smE_ok gs3_ok narrow_ok rfl))
def gs4 : G2 := (G2.setG gs3 33 (gFd copyListsS (.one (.list [.list [.int .i64]])) copyListsC copyListsR))
theorem gs4_ok : G2Ok gs4 := (G2Ok.setG gs3_ok (by kernel_rfl) (gsOk_of smE_ok gs3_ok copyLists_ok))
def refFlowS : List PT := [.agg [.int .i64, .int .i64, .int .i64, .int .i64], .one (.list [.list [.int .i64]])]
def refFlowC : List FD → Bool
  | [.int _ _, .int _ _, .int _ _, .int _ _, .list _ _ _] => true
  | _ => false
def refFlowR : List FD → List FD
  | [.int _ st, .int _ pl, .int _ ho, .int _ ge, .list _ nfl ffl] => [.int .i64 (flowE st pl ho ge nfl ffl)]
  | _ => []
def refFlowI (st : Int) (pl : Int) (ho : Int) (ge : Int) (nfl : Nat) (ffl : Nat → Nat → FD) : Nat → AFam := fun i => match i with | 7 => ⟨Nat, fun _ => [{ι := Nat, G := fun x => x ≤ nfl ∧ rowsE ho ffl (nfl - x) x = rowsE ho ffl nfl 0, μ := fun x => nfl - x, tl := fun x => [(0, .agg [.int IntKind.i64 (.tm st), .int IntKind.i64 (.tm pl), .int IntKind.i64 (.tm ho), .int IntKind.i64 (.tm ge)]), (1, .one (.fz (.root 0 4) (FD.list [Sh.list [Sh.int IntKind.i64]] nfl ffl))), (2, .one (.ptr (some (1, 0)))), (6, .one (.int IntKind.i64 (.tm (Int.ofNat x))))], bl := fun x => [(1, .cells 47 4 [.int IntKind.i64 (.tm st), .int IntKind.i64 (.tm pl), .int IntKind.i64 (.tm ho), .int IntKind.i64 (.tm ge)])], nx := (1 : Nat) + (1 : Nat)}]⟩ | 12 => ⟨Nat, fun z => [{ι := Nat, G := fun x => x ≤ (ffl z 0).ln ∧ (∀ k, k < x → 0 ≤ ((ffl z 0).fn k 0).i ∧ ((ffl z 0).fn k 0).i ≤ 100), μ := fun x => (ffl z 0).ln - x, tl := fun x => [(0, .agg [.int IntKind.i64 (.tm st), .int IntKind.i64 (.tm pl), .int IntKind.i64 (.tm ho), .int IntKind.i64 (.tm ge)]), (1, .one (.fz (.root 0 4) (FD.list [Sh.list [Sh.int IntKind.i64]] nfl ffl))), (2, .one (.ptr (some (1, 0)))), (6, .one (.int IntKind.i64 (.tm (Int.ofNat z)))), (7, .one (.int IntKind.i64 (.tm (Int.ofNat x))))], bl := fun x => [(1, .cells 47 4 [.int IntKind.i64 (.tm st), .int IntKind.i64 (.tm pl), .int IntKind.i64 (.tm ho), .int IntKind.i64 (.tm ge)])], nx := (1 : Nat) + (1 : Nat) + ((0 : Nat) + (1 : Nat) + (1 : Nat) + (1 : Nat) + (1 : Nat) + (1 : Nat) + (1 : Nat) + (1 : Nat) + (1 : Nat))}]⟩ | _ => ⟨Nat, fun _ => []⟩
theorem refFlow_ok : FnOk (mkR smG gs4) Try.prog η0 30 (FI.of Try.f30 true) refFlowS (.one (.int .i64)) refFlowC refFlowR := by
  refine fnOk_of0 smG_ok gs4_ok Try.fok30 (fun fds => match fds with | [.int _ st, .int _ pl, .int _ ho, .int _ ge, .list _ nfl ffl] => refFlowI st pl ho ge nfl ffl | _ => alts fun _ => []) ?_
  intro fds hf hc
  obtain ⟨st, ds0, rfl, hf1⟩ := hf.int
  obtain ⟨pl, ds1, rfl, hf2⟩ := hf1.int
  obtain ⟨ho, ds2, rfl, hf3⟩ := hf2.int
  obtain ⟨ge, ds3, rfl, hf4⟩ := hf3.int
  obtain ⟨nfl, ffl, ds4, rfl, gfl, hf5⟩ := hf4.list
  obtain rfl := hf5.nil
  have hc : (true) = true := hc
  have hvc : (vcF smG gs4 (FI.of Try.f30 true) refFlowS (.one (.int .i64)) (refFlowI st pl ho ge nfl ffl) noR [.int .i64 st, .int .i64 pl, .int .i64 ho, .int .i64 ge, .list [.list [.int .i64]] nfl ffl] (refFlowR [.int .i64 st, .int .i64 pl, .int .i64 ho, .int .i64 ge, .list [.list [.int .i64]] nfl ffl])) =
    ((true = true) ∧ (((true = true) → ((((decide (rackE st pl ho ge = (0 : Int))) = (false)) → (((IntKind.i64) = (IntKind.i64)) ∧ ((flowE st pl ho ge nfl ffl) = (rackE st pl ho ge)))) ∧ (((decide (rackE st pl ho ge = (0 : Int))) = (true)) → ((((decide (Int.ofNat nfl = st)) = (false)) → (((IntKind.i64) = (IntKind.i64)) ∧ ((flowE st pl ho ge nfl ffl) = ((12 : Int))))) ∧ (((decide (Int.ofNat nfl = st)) = (true)) → (∃ y0 : Nat, ((∃ y1 : Nat, (((y1 ≤ nfl ∧ ((rowsE ho ffl (nfl - y1) y1) = (rowsE ho ffl nfl (0 : Nat)))) ∧ True) ∧ (((true = true) ∧ (((((IntKind.i64) = (IntKind.i64)) ∧ ((st) = (st))) ∧ ((((IntKind.i64) = (IntKind.i64)) ∧ ((pl) = (pl))) ∧ ((((IntKind.i64) = (IntKind.i64)) ∧ ((ho) = (ho))) ∧ ((((IntKind.i64) = (IntKind.i64)) ∧ ((ge) = (ge))) ∧ True)))) ∧ ((((Ref.root (0) (4)) = (Ref.root (0) (4))) ∧ (((FD.list [Sh.list [Sh.int IntKind.i64]] nfl ffl) = (FD.list [Sh.list [Sh.int IntKind.i64]] nfl ffl)) ∧ (true = true))) ∧ ((((1, 1) ∈ ([(1, 1)] : List (Nat × Nat))) ∧ ((Prod.snd ((1 : Nat), (0 : Nat))) = (Prod.snd ((1 : Nat), (0 : Nat))))) ∧ ((((IntKind.i64) = (IntKind.i64)) ∧ ((Int.ofNat y1) = ((0 : Int)))) ∧ True))))) ∧ (((((47 : TypeId)) = ((47 : Nat))) ∧ ((((4 : Nat)) = (List.length [Sc.int IntKind.i64 (Ix.tm st), Sc.int IntKind.i64 (Ix.tm pl), Sc.int IntKind.i64 (Ix.tm ho), Sc.int IntKind.i64 (Ix.tm ge)])) ∧ ((((IntKind.i64) = (IntKind.i64)) ∧ ((st) = (st))) ∧ ((((IntKind.i64) = (IntKind.i64)) ∧ ((pl) = (pl))) ∧ ((((IntKind.i64) = (IntKind.i64)) ∧ ((ho) = (ho))) ∧ ((((IntKind.i64) = (IntKind.i64)) ∧ ((ge) = (ge))) ∧ True)))))) ∧ True)))) ∧ (∀ y1 : Nat, ((y1 ≤ nfl ∧ ((rowsE ho ffl (nfl - y1) y1) = (rowsE ho ffl nfl (0 : Nat)))) → ((((decide (Int.ofNat y1 < Int.ofNat nfl)) = (true)) → ((((decide ((0 : Int) ≤ Int.ofNat y1) && decide (Int.ofNat y1 < (↑nfl : Int))) = (true)) → ((((decide (Int.ofNat (FD.ln (ffl (Int.toNat (Int.ofNat y1)) (0 : Nat))) = ho)) = (false)) → (((IntKind.i64) = (IntKind.i64)) ∧ ((flowE st pl ho ge nfl ffl) = ((12 : Int))))) ∧ (((decide (Int.ofNat (FD.ln (ffl (Int.toNat (Int.ofNat y1)) (0 : Nat))) = ho)) = (true)) → (∃ y2 : Nat, ((∃ y3 : Nat, (((y3 ≤ FD.ln (ffl y2 (0 : Nat)) ∧ (∀ y4 : Nat, (y4 < y3 → ((0 : Int) ≤ FD.i (FD.fn (ffl y2 (0 : Nat)) y4 (0 : Nat)) ∧ FD.i (FD.fn (ffl y2 (0 : Nat)) y4 (0 : Nat)) ≤ (100 : Int))))) ∧ True) ∧ (((true = true) ∧ (((((IntKind.i64) = (IntKind.i64)) ∧ ((st) = (st))) ∧ ((((IntKind.i64) = (IntKind.i64)) ∧ ((pl) = (pl))) ∧ ((((IntKind.i64) = (IntKind.i64)) ∧ ((ho) = (ho))) ∧ ((((IntKind.i64) = (IntKind.i64)) ∧ ((ge) = (ge))) ∧ True)))) ∧ ((((Ref.root (0) (4)) = (Ref.root (0) (4))) ∧ (((FD.list [Sh.list [Sh.int IntKind.i64]] nfl ffl) = (FD.list [Sh.list [Sh.int IntKind.i64]] nfl ffl)) ∧ (true = true))) ∧ ((((1, 1) ∈ ([(1, 1)] : List (Nat × Nat))) ∧ ((Prod.snd ((1 : Nat), (0 : Nat))) = (Prod.snd ((1 : Nat), (0 : Nat))))) ∧ ((((IntKind.i64) = (IntKind.i64)) ∧ ((Int.ofNat y2) = (Int.ofNat y1))) ∧ ((((IntKind.i64) = (IntKind.i64)) ∧ ((Int.ofNat y3) = ((0 : Int)))) ∧ True)))))) ∧ (((((47 : TypeId)) = ((47 : TypeId))) ∧ ((((4 : Nat)) = ((4 : Nat))) ∧ ((((IntKind.i64) = (IntKind.i64)) ∧ ((st) = (st))) ∧ ((((IntKind.i64) = (IntKind.i64)) ∧ ((pl) = (pl))) ∧ ((((IntKind.i64) = (IntKind.i64)) ∧ ((ho) = (ho))) ∧ ((((IntKind.i64) = (IntKind.i64)) ∧ ((ge) = (ge))) ∧ True)))))) ∧ True)))) ∧ (∀ y3 : Nat, ((y3 ≤ FD.ln (ffl y2 (0 : Nat)) ∧ (∀ y4 : Nat, (y4 < y3 → ((0 : Int) ≤ FD.i (FD.fn (ffl y2 (0 : Nat)) y4 (0 : Nat)) ∧ FD.i (FD.fn (ffl y2 (0 : Nat)) y4 (0 : Nat)) ≤ (100 : Int))))) → ((((decide ((0 : Int) ≤ Int.ofNat y2) && decide (Int.ofNat y2 < (↑nfl : Int))) = (true)) → ((((decide (Int.ofNat y3 < Int.ofNat (FD.ln (ffl (Int.toNat (Int.ofNat y2)) (0 : Nat))))) = (true)) → ((((decide ((0 : Int) ≤ Int.ofNat y2) && decide (Int.ofNat y2 < (↑nfl : Int))) = (true)) → ((((decide ((0 : Int) ≤ Int.ofNat y3) && decide (Int.ofNat y3 < (↑(FD.ln (ffl (Int.toNat (Int.ofNat y2)) (0 : Nat))) : Int))) = (true)) → (((true = true) → ((((decide ((0 : Int) ≤ FD.i (FD.fn (ffl (Int.toNat (Int.ofNat y2)) (0 : Nat)) (Int.toNat (Int.ofNat y3)) (0 : Nat))) && decide (FD.i (FD.fn (ffl (Int.toNat (Int.ofNat y2)) (0 : Nat)) (Int.toNat (Int.ofNat y3)) (0 : Nat)) ≤ (100 : Int))) = (false)) → (((IntKind.i64) = (IntKind.i64)) ∧ ((flowE st pl ho ge nfl ffl) = ((2 : Int))))) ∧ (((decide ((0 : Int) ≤ FD.i (FD.fn (ffl (Int.toNat (Int.ofNat y2)) (0 : Nat)) (Int.toNat (Int.ofNat y3)) (0 : Nat))) && decide (FD.i (FD.fn (ffl (Int.toNat (Int.ofNat y2)) (0 : Nat)) (Int.toNat (Int.ofNat y3)) (0 : Nat)) ≤ (100 : Int))) = (true)) → (∃ y4 : Nat, (((y4 ≤ FD.ln (ffl y2 (0 : Nat)) ∧ (∀ y5 : Nat, (y5 < y4 → ((0 : Int) ≤ FD.i (FD.fn (ffl y2 (0 : Nat)) y5 (0 : Nat)) ∧ FD.i (FD.fn (ffl y2 (0 : Nat)) y5 (0 : Nat)) ≤ (100 : Int))))) ∧ FD.ln (ffl y2 (0 : Nat)) - y4 < FD.ln (ffl y2 (0 : Nat)) - y3) ∧ (((true = true) ∧ (((((IntKind.i64) = (IntKind.i64)) ∧ ((st) = (st))) ∧ ((((IntKind.i64) = (IntKind.i64)) ∧ ((pl) = (pl))) ∧ ((((IntKind.i64) = (IntKind.i64)) ∧ ((ho) = (ho))) ∧ ((((IntKind.i64) = (IntKind.i64)) ∧ ((ge) = (ge))) ∧ True)))) ∧ ((((Ref.root (0) (4)) = (Ref.root (0) (4))) ∧ (((FD.list [Sh.list [Sh.int IntKind.i64]] nfl ffl) = (FD.list [Sh.list [Sh.int IntKind.i64]] nfl ffl)) ∧ (true = true))) ∧ ((((1, 1) ∈ ([(1, 1)] : List (Nat × Nat))) ∧ ((Prod.snd ((1 : Nat), (0 : Nat))) = (Prod.snd ((1 : Nat), (0 : Nat))))) ∧ ((((IntKind.i64) = (IntKind.i64)) ∧ ((Int.ofNat y2) = (Int.ofNat y2))) ∧ ((((IntKind.i64) = (IntKind.i64)) ∧ ((Int.ofNat y4) = (IntKind.wrap IntKind.i64 (Int.ofNat y3 + (1 : Int))))) ∧ True)))))) ∧ (((((47 : TypeId)) = ((47 : TypeId))) ∧ ((((4 : Nat)) = ((4 : Nat))) ∧ ((((IntKind.i64) = (IntKind.i64)) ∧ ((st) = (st))) ∧ ((((IntKind.i64) = (IntKind.i64)) ∧ ((pl) = (pl))) ∧ ((((IntKind.i64) = (IntKind.i64)) ∧ ((ho) = (ho))) ∧ ((((IntKind.i64) = (IntKind.i64)) ∧ ((ge) = (ge))) ∧ True)))))) ∧ True))))))) ∧ ((true = false) → False))) ∧ (((decide ((0 : Int) ≤ Int.ofNat y3) && decide (Int.ofNat y3 < (↑(FD.ln (ffl (Int.toNat (Int.ofNat y2)) (0 : Nat))) : Int))) = (false)) → False))) ∧ (((decide ((0 : Int) ≤ Int.ofNat y2) && decide (Int.ofNat y2 < (↑nfl : Int))) = (false)) → False))) ∧ (((decide (Int.ofNat y3 < Int.ofNat (FD.ln (ffl (Int.toNat (Int.ofNat y2)) (0 : Nat))))) = (false)) → (∃ y4 : Nat, (((y4 ≤ nfl ∧ ((rowsE ho ffl (nfl - y4) y4) = (rowsE ho ffl nfl (0 : Nat)))) ∧ nfl - y4 < nfl - y1) ∧ (((true = true) ∧ (((((IntKind.i64) = (IntKind.i64)) ∧ ((st) = (st))) ∧ ((((IntKind.i64) = (IntKind.i64)) ∧ ((pl) = (pl))) ∧ ((((IntKind.i64) = (IntKind.i64)) ∧ ((ho) = (ho))) ∧ ((((IntKind.i64) = (IntKind.i64)) ∧ ((ge) = (ge))) ∧ True)))) ∧ ((((Ref.root (0) (4)) = (Ref.root (0) (4))) ∧ (((FD.list [Sh.list [Sh.int IntKind.i64]] nfl ffl) = (FD.list [Sh.list [Sh.int IntKind.i64]] nfl ffl)) ∧ (true = true))) ∧ ((((1, 1) ∈ ([(1, 1)] : List (Nat × Nat))) ∧ ((Prod.snd ((1 : Nat), (0 : Nat))) = (Prod.snd ((1 : Nat), (0 : Nat))))) ∧ ((((IntKind.i64) = (IntKind.i64)) ∧ ((Int.ofNat y4) = (IntKind.wrap IntKind.i64 (Int.ofNat y2 + (1 : Int))))) ∧ True))))) ∧ (((((47 : TypeId)) = ((47 : TypeId))) ∧ ((((4 : Nat)) = ((4 : Nat))) ∧ ((((IntKind.i64) = (IntKind.i64)) ∧ ((st) = (st))) ∧ ((((IntKind.i64) = (IntKind.i64)) ∧ ((pl) = (pl))) ∧ ((((IntKind.i64) = (IntKind.i64)) ∧ ((ho) = (ho))) ∧ ((((IntKind.i64) = (IntKind.i64)) ∧ ((ge) = (ge))) ∧ True)))))) ∧ True))))))) ∧ (((decide ((0 : Int) ≤ Int.ofNat y2) && decide (Int.ofNat y2 < (↑nfl : Int))) = (false)) → False))))))))) ∧ (((decide ((0 : Int) ≤ Int.ofNat y1) && decide (Int.ofNat y1 < (↑nfl : Int))) = (false)) → False))) ∧ (((decide (Int.ofNat y1 < Int.ofNat nfl)) = (false)) → (((IntKind.i64) = (IntKind.i64)) ∧ ((flowE st pl ho ge nfl ffl) = ((0 : Int))))))))))))))) ∧ ((true = false) → False))) := by kernel_rfl
  refine hvc.mpr ?_
  clear hvc
  simp
  refine ⟨fun h => by rw [flowE, if_neg h], fun h1 => ⟨fun h2 => by rw [flowE, if_pos h1, if_neg h2], fun h2 x hx he => ?_⟩⟩
  have hF : flowE st pl ho ge nfl ffl = rowsE ho ffl (nfl - x) x := by rw [flowE, if_pos h1, if_pos h2, he]
  have hb := rackE_ok h1
  simp only [rackB, Bool.and_eq_true, decide_eq_true_eq] at hb
  refine ⟨fun hlt => ⟨fun _ => ⟨fun hn => ?_, fun hn => ⟨x, rfl, fun y hy hin => ⟨fun _ => ⟨fun hyl => ⟨fun _ => ⟨fun _ => ⟨fun ho => ?_, fun a b => ⟨y + 1, ⟨⟨by omega, fun k hk => ?_⟩, by omega⟩, ?_⟩⟩, hyl⟩, hlt⟩, fun hyl => ⟨x + 1, ⟨⟨by omega, ?_⟩, by omega⟩, ?_⟩⟩, hlt⟩⟩⟩, hlt⟩, fun hge => ?_⟩
  · rw [hF, show nfl - x = nfl - (x + 1) + 1 by omega, rowsE, if_neg hn]
  · rw [hF, show nfl - x = nfl - (x + 1) + 1 by omega, rowsE, if_pos hn, if_pos (anyN_out (f := (ffl x 0).fn) hyl (by omega))]
  · by_cases e : k = y
    · subst e; exact ⟨a, b⟩
    · exact hin k (by omega)
  · rw [wrap_id (by omega) (by omega)]
    rfl
  · rw [← he, show nfl - x = nfl - (x + 1) + 1 by omega, rowsE, if_pos hn, if_neg]
    rw [anyN_in (f := (ffl x 0).fn) fun k hk => hin k (by omega)]
    exact fun h => by cases h
  · have := gfl.len
    have hl' : maxLen = 9223372036854775807 := rfl
    rw [wrap_id (by omega) (by omega)]
    rfl
  · rw [hF, show nfl - x = 0 by omega]
    rfl
theorem per_mul (S H G : Nat) : ∃ k, perN S H G = S * k := by
  obtain ⟨a, ha⟩ := Nat.gcd_dvd_left S (H / Nat.gcd H G)
  obtain ⟨b, hb⟩ := Nat.gcd_dvd_right S (H / Nat.gcd H G)
  unfold perN
  rcases Nat.eq_zero_or_pos (Nat.gcd S (H / Nat.gcd H G)) with h0 | h0
  · rw [h0, Nat.div_zero, Nat.zero_mul]
    exact ⟨0, rfl⟩
  · refine ⟨b, ?_⟩
    have h1 : S / Nat.gcd S (H / Nat.gcd H G) = a := Nat.div_eq_of_eq_mul_right h0 ha
    rw [h1]
    conv => lhs; rw [hb]
    conv => rhs; rw [ha]
    rw [Nat.mul_comm a, Nat.mul_assoc, Nat.mul_assoc, Nat.mul_comm b a]
theorem turn_dvd {H G m : Nat} (hH : 1 ≤ H) : G * m % H = 0 ↔ H / Nat.gcd H G ∣ m := by
  have hd := Nat.gcd_pos_of_pos_left G (show 0 < H by omega)
  obtain ⟨t, ht⟩ := Nat.gcd_dvd_left H G
  obtain ⟨g, hg⟩ := Nat.gcd_dvd_right H G
  have e1 : H / Nat.gcd H G = t := Nat.div_eq_of_eq_mul_right hd ht
  have hco : Nat.Coprime t g := by
    have := Nat.coprime_div_gcd_div_gcd hd
    rw [e1, Nat.div_eq_of_eq_mul_right hd hg] at this
    exact this
  rw [e1]
  have e2 : G * m % H = 0 ↔ H ∣ G * m := (Nat.dvd_iff_mod_eq_zero ..).symm
  rw [e2]
  constructor
  · rintro ⟨q, hq⟩
    have : Nat.gcd H G * (g * m) = Nat.gcd H G * (t * q) := by
      rw [← Nat.mul_assoc, ← hg, ← Nat.mul_assoc, ← ht]; exact hq
    exact hco.dvd_of_dvd_mul_left ⟨q, Nat.eq_of_mul_eq_mul_left hd this⟩
  · rintro ⟨q, rfl⟩
    refine ⟨g * q, ?_⟩
    conv => lhs; rw [hg]
    conv => rhs; rw [ht]
    rw [Nat.mul_assoc, Nat.mul_assoc, Nat.mul_left_comm g t q]
theorem per_least {S H G x : Nat} (h1 : 1 ≤ S) (h2 : 1 ≤ H) (hx : 1 ≤ x) (h : G * (S * x) % H = 0) : perN S H G ≤ S * x := by
  have ht := (turn_dvd h2).1 h
  have hT := turn_pos G h2
  have hl : Nat.lcm S (H / Nat.gcd H G) ∣ S * x := Nat.lcm_dvd ⟨x, rfl⟩ ht
  have e : perN S H G = Nat.lcm S (H / Nat.gcd H G) := by
    unfold perN Nat.lcm
    rw [Nat.mul_comm, ← Nat.mul_div_assoc _ (Nat.gcd_dvd_left _ _), Nat.mul_comm]
  rw [e]
  exact Nat.le_of_dvd (Nat.mul_pos h1 hx) hl
theorem per_turn {S H G : Nat} (h2 : 1 ≤ H) : G * perN S H G % H = 0 := (turn_dvd h2).2 ⟨S / Nat.gcd S (H / Nat.gcd H G), by rw [perN, Nat.mul_comm]⟩
def refPeriodS : List PT := [.agg [.int .i64, .int .i64, .int .i64, .int .i64]]
def refPeriodC : List FD → Bool
  | [.int _ st, .int _ pl, .int _ ho, .int _ ge] => rackB st pl ho ge
  | _ => false
def refPeriodR : List FD → List FD
  | [.int _ st, .int _ _, .int _ ho, .int _ ge] => [.int .i64 (perI st ho ge)]
  | _ => []
def refPeriodI (st : Int) (pl : Int) (ho : Int) (ge : Int) : Nat → AFam := fun i => match i with | 2 => ⟨Nat, fun _ => [{ι := Nat, G := fun x => 1 ≤ x ∧ st * (x : Int) ≤ perI st ho ge, μ := fun x => (perI st ho ge - st * (x : Int)).toNat, tl := fun x => [(0, .agg [.int IntKind.i64 (.tm st), .int IntKind.i64 (.tm pl), .int IntKind.i64 (.tm ho), .int IntKind.i64 (.tm ge)]), (1, .one (.ptr (some (1, 0)))), (3, .one (.int IntKind.i64 (.tm (st * (x : Int)))))], bl := fun x => [(1, .cells 47 4 [.int IntKind.i64 (.tm st), .int IntKind.i64 (.tm pl), .int IntKind.i64 (.tm ho), .int IntKind.i64 (.tm ge)])], nx := (1 : Nat) + (1 : Nat)}]⟩ | _ => ⟨Nat, fun _ => []⟩
theorem refPeriod_ok : FnOk (mkR smG gs4) Try.prog η0 48 (FI.of Try.f48 true) refPeriodS (.one (.int .i64)) refPeriodC refPeriodR := by
  refine fnOk_of0 smG_ok gs4_ok Try.fok48 (fun fds => match fds with | [.int _ st, .int _ pl, .int _ ho, .int _ ge] => refPeriodI st pl ho ge | _ => alts fun _ => []) ?_
  intro fds hf hc
  obtain ⟨st, ds0, rfl, hf1⟩ := hf.int
  obtain ⟨pl, ds1, rfl, hf2⟩ := hf1.int
  obtain ⟨ho, ds2, rfl, hf3⟩ := hf2.int
  obtain ⟨ge, ds3, rfl, hf4⟩ := hf3.int
  obtain rfl := hf4.nil
  have hc : (rackB st pl ho ge) = true := hc
  have hvc : (vcF smG gs4 (FI.of Try.f48 true) refPeriodS (.one (.int .i64)) (refPeriodI st pl ho ge) noR [.int .i64 st, .int .i64 pl, .int .i64 ho, .int .i64 ge] (refPeriodR [.int .i64 st, .int .i64 pl, .int .i64 ho, .int .i64 ge])) =
    ((true = true) ∧ (∃ y0 : Nat, ((∃ y1 : Nat, ((((1 : Nat) ≤ y1 ∧ st * (↑y1 : Int) ≤ perI st ho ge) ∧ True) ∧ (((true = true) ∧ (((((IntKind.i64) = (IntKind.i64)) ∧ ((st) = (st))) ∧ ((((IntKind.i64) = (IntKind.i64)) ∧ ((pl) = (pl))) ∧ ((((IntKind.i64) = (IntKind.i64)) ∧ ((ho) = (ho))) ∧ ((((IntKind.i64) = (IntKind.i64)) ∧ ((ge) = (ge))) ∧ True)))) ∧ ((((1, 1) ∈ ([(1, 1)] : List (Nat × Nat))) ∧ ((Prod.snd ((1 : Nat), (0 : Nat))) = (Prod.snd ((1 : Nat), (0 : Nat))))) ∧ ((((IntKind.i64) = (IntKind.i64)) ∧ ((st * (↑y1 : Int)) = (st))) ∧ True)))) ∧ (((((47 : TypeId)) = ((47 : Nat))) ∧ ((((4 : Nat)) = (List.length [Sc.int IntKind.i64 (Ix.tm st), Sc.int IntKind.i64 (Ix.tm pl), Sc.int IntKind.i64 (Ix.tm ho), Sc.int IntKind.i64 (Ix.tm ge)])) ∧ ((((IntKind.i64) = (IntKind.i64)) ∧ ((st) = (st))) ∧ ((((IntKind.i64) = (IntKind.i64)) ∧ ((pl) = (pl))) ∧ ((((IntKind.i64) = (IntKind.i64)) ∧ ((ho) = (ho))) ∧ ((((IntKind.i64) = (IntKind.i64)) ∧ ((ge) = (ge))) ∧ True)))))) ∧ True)))) ∧ (∀ y1 : Nat, (((1 : Nat) ≤ y1 ∧ st * (↑y1 : Int) ≤ perI st ho ge) → ((((!decide (ho = (0 : Int))) = (true)) → ((((decide (Int.tmod (IntKind.wrap IntKind.i64 (ge * (st * (↑y1 : Int)))) ho = (0 : Int))) = (false)) → (∃ y2 : Nat, ((((1 : Nat) ≤ y2 ∧ st * (↑y2 : Int) ≤ perI st ho ge) ∧ Int.toNat (perI st ho ge - st * (↑y2 : Int)) < Int.toNat (perI st ho ge - st * (↑y1 : Int))) ∧ (((true = true) ∧ (((((IntKind.i64) = (IntKind.i64)) ∧ ((st) = (st))) ∧ ((((IntKind.i64) = (IntKind.i64)) ∧ ((pl) = (pl))) ∧ ((((IntKind.i64) = (IntKind.i64)) ∧ ((ho) = (ho))) ∧ ((((IntKind.i64) = (IntKind.i64)) ∧ ((ge) = (ge))) ∧ True)))) ∧ ((((1, 1) ∈ ([(1, 1)] : List (Nat × Nat))) ∧ ((Prod.snd ((1 : Nat), (0 : Nat))) = (Prod.snd ((1 : Nat), (0 : Nat))))) ∧ ((((IntKind.i64) = (IntKind.i64)) ∧ ((st * (↑y2 : Int)) = (IntKind.wrap IntKind.i64 (st * (↑y1 : Int) + st)))) ∧ True)))) ∧ (((((47 : TypeId)) = ((47 : TypeId))) ∧ ((((4 : Nat)) = ((4 : Nat))) ∧ ((((IntKind.i64) = (IntKind.i64)) ∧ ((st) = (st))) ∧ ((((IntKind.i64) = (IntKind.i64)) ∧ ((pl) = (pl))) ∧ ((((IntKind.i64) = (IntKind.i64)) ∧ ((ho) = (ho))) ∧ ((((IntKind.i64) = (IntKind.i64)) ∧ ((ge) = (ge))) ∧ True)))))) ∧ True))))) ∧ (((decide (Int.tmod (IntKind.wrap IntKind.i64 (ge * (st * (↑y1 : Int)))) ho = (0 : Int))) = (true)) → (((IntKind.i64) = (IntKind.i64)) ∧ ((perI st ho ge) = (st * (↑y1 : Int))))))) ∧ (((!decide (ho = (0 : Int))) = (false)) → False))))))) := by kernel_rfl
  refine hvc.mpr ?_
  clear hvc
  obtain ⟨S, P, H, G, ⟨rfl, rfl, rfl, rfl⟩, c1, c2, c3, c4, c5, c6, c7, c8⟩ := rack_nat hc
  have hb := perN_le S H G
  have hSH : S * H ≤ 24 * 12 := Nat.mul_le_mul c2 c6
  have hp0 := perN_pos G c1 c5
  simp only [perI_nat c2 c6]
  simp
  obtain ⟨k, hk⟩ := per_mul S H G
  have hk1 : 1 ≤ k := by
    rcases Nat.eq_zero_or_pos k with rfl | h
    · omega
    · exact h
  have hm : ∀ x : Nat, S * x ≤ perN S H G → (IntKind.i64.wrap ((G : Int) * ((S : Int) * (x : Int)))).tmod (H : Int) = ((G * (S * x) % H : Nat) : Int) := fun x hx => by
    have : G * (S * x) ≤ 12 * 288 := Nat.mul_le_mul (by omega) (by omega)
    rw [← Int.natCast_mul, ← Int.natCast_mul, wrap_id (by omega) (by omega), Int.tmod_eq_emod_of_nonneg (by omega), ← Int.natCast_emod]
  refine ⟨⟨1, ⟨by omega, ?_⟩, by omega⟩, fun x hx hle => ⟨fun _ => ⟨fun hne => ?_, fun he => ?_⟩, by omega⟩⟩
  · have := Nat.mul_le_mul_left S hk1
    rw [← Int.natCast_mul]
    omega
  · rw [← Int.natCast_mul] at hle
    have hle' : S * x ≤ perN S H G := by omega
    rw [hm x hle'] at hne
    have hxk : x < k := by
      rcases Nat.lt_or_ge x k with h | h
      · exact h
      · have h3 := Nat.mul_le_mul_left S h
        have h4 : S * x = perN S H G := by omega
        rw [h4, per_turn c5] at hne
        exact absurd rfl hne
    have h5 := Nat.mul_le_mul_left S (show x + 1 ≤ k from hxk)
    have h6 : S * (x + 1) = S * x + S := Nat.mul_succ S x
    refine ⟨x + 1, ⟨⟨by omega, ?_⟩, ?_⟩, ?_⟩
    · rw [← Int.natCast_mul]
      omega
    · rw [← Int.natCast_mul, ← Int.natCast_mul]
      omega
    · rw [← Int.natCast_mul, ← Int.natCast_mul, wrap_id (by omega) (by omega)]
      omega
  · rw [← Int.natCast_mul] at hle ⊢
    have hle' : S * x ≤ perN S H G := by omega
    rw [hm x hle'] at he
    have := per_least c1 c5 hx (show G * (S * x) % H = 0 by omega)
    omega

end
end Go.Ex


namespace Go.Ex
open Go Go.Proofs Go.RowKit
noncomputable section
set_option maxRecDepth 1000000

theorem narrow_copy {n : Nat} {f : Nat → Nat → FD} (h : narrowB n f = true) : copyListsC [.list [.list [.int .i64]] n f] = true := by
  simp only [narrowB, Bool.and_eq_true, Bool.not_eq_true'] at h
  have h1 := Nat.le_of_ble_eq_true h.1
  simp only [copyListsC, Bool.and_eq_true]
  refine ⟨Nat.ble_eq_true_of_le (by omega), natAll_of fun i hi => Nat.ble_eq_true_of_le ?_⟩
  have := anyN_false h.2 i (by omega) (by omega)
  rw [Bool.eq_false_iff] at this
  rcases Nat.lt_or_ge 14 (f i 0).ln with h2 | h2
  · exact absurd (Nat.ble_eq_true_of_le h2) this
  · omega
def smH : T Smf := (T.set (T.set smG 30 (some (gFd refFlowS (.one (.int .i64)) refFlowC refFlowR))) 48 (some (gFd refPeriodS (.one (.int .i64)) refPeriodC refPeriodR)))
theorem smH_ok : Tab SmOk smH := (Tab.set (Tab.set smG_ok (by kernel_rfl) (smOk_of smG_ok gs4_ok refFlow_ok rfl)) (by kernel_rfl) (smOk_of smG_ok gs4_ok refPeriod_ok rfl))
end
end Go.Ex

