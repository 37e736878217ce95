/-
  Contracts: lists are equal; the thicknesses of all parts; blades.
-/
/-
  Contracts: checks of a task; copies.
-/
/-
  Sums; rows that grow.
-/
import Derived.Test.YtdpabnfcfakjeaaLwCk

namespace Go.Ex
open Go Go.Proofs Go.RowKit
noncomputable section
set_option maxRecDepth 1000000

def intsB (na : Nat) (fa : Nat → Nat → FD) (nb : Nat) (fb : Nat → Nat → FD) : Bool := Nat.beq na nb && natAll (fun i => decide ((fa i 0).i = (fb i 0).i)) na
def listsB (na : Nat) (fa : Nat → Nat → FD) (nb : Nat) (fb : Nat → Nat → FD) : Bool := Nat.beq na nb && natAll (fun i => intsB (fa i 0).ln (fa i 0).fn (fb i 0).ln (fb i 0).fn) na
theorem natAll_false {p : Nat → Bool} : ∀ {m i : Nat}, i < m → p i = false → natAll p m = false
  | m + 1, i, h, hp => by
    show (p m && natAll p m) = false
    by_cases e : i = m
    · subst e; rw [hp]; rfl
    · rw [natAll_false (show i < m by omega) hp, Bool.and_false]
theorem natAll_step {p : Nat → Bool} {m : Nat} (h : natAll p m = true) (hp : p m = true) : natAll p (m + 1) = true := by
  show (p m && natAll p m) = true
  rw [h, hp]; rfl
def IntsS : List PT := [.one (.list [.int .i64]), .one (.list [.int .i64])]
def IntsC : List FD → Bool
  | [.list _ _ _, .list _ _ _] => true
  | _ => false
def IntsR : List FD → List FD
  | [.list _ na fa, .list _ nb fb] => [.bool (intsB na fa nb fb)]
  | _ => []
def IntsI (na : Nat) (fa : Nat → Nat → FD) (nb : Nat) (fb : Nat → Nat → FD) : Nat → AFam := fun i => match i with | 4 => ⟨Nat, fun _ => [{ι := Nat, G := fun x => x ≤ na ∧ natAll (fun i => decide ((fa i 0).i = (fb i 0).i)) x = true, μ := fun x => na - x, tl := fun x => [(0, .one (.fz (.root 0 0) (FD.list [Sh.int IntKind.i64] na fa))), (1, .one (.fz (.root 0 1) (FD.list [Sh.int IntKind.i64] nb fb))), (5, .one (.int IntKind.i64 (.tm (Int.ofNat x))))], bl := fun _ => [], nx := (1 : Nat)}]⟩ | _ => ⟨Nat, fun _ => []⟩
theorem Ints_ok : FnOk (mkR smH gs4) Try.prog η0 56 (FI.of Try.f56 true) IntsS (.one .bool) IntsC IntsR := by
  refine fnOk_of0 smH_ok gs4_ok Try.fok56 (fun fds => match fds with | [.list _ na fa, .list _ nb fb] => IntsI na fa nb fb | _ => alts fun _ => []) ?_
  intro fds hf hc
  obtain ⟨na, fa, ds0, rfl, ga, hf1⟩ := hf.list
  obtain ⟨nb, fb, ds1, rfl, gb, hf2⟩ := hf1.list
  obtain rfl := hf2.nil
  have hc : (true) = true := hc
  have hvc : (vcF smH gs4 (FI.of Try.f56 true) IntsS (.one .bool) (IntsI na fa nb fb) noR [.list [.int .i64] na fa, .list [.int .i64] nb fb] (IntsR [.list [.int .i64] na fa, .list [.int .i64] nb fb])) =
    ((true = true) ∧ ((((decide (Int.ofNat na = Int.ofNat nb)) = (false)) → ((intsB na fa nb fb) = (false))) ∧ (((decide (Int.ofNat na = Int.ofNat nb)) = (true)) → (∃ y0 : Nat, ((∃ y1 : Nat, (((y1 ≤ na ∧ ((natAll (fun (i : Nat) => decide (FD.i (fa i (0 : Nat)) = FD.i (fb i (0 : Nat)))) y1) = (true))) ∧ True) ∧ (((true = true) ∧ ((((Ref.root (0 : Nat) (0 : Nat)) = (Ref.root (0 : Nat) (0 : Nat))) ∧ (((FD.list [Sh.int IntKind.i64] na fa) = (FD.list [Sh.int IntKind.i64] na fa)) ∧ (true = true))) ∧ ((((Ref.root (0 : Nat) (1 : Nat)) = (Ref.root (0 : Nat) ((0 : Nat) + (1 : Nat)))) ∧ (((FD.list [Sh.int IntKind.i64] nb fb) = (FD.list [Sh.int IntKind.i64] nb fb)) ∧ (true = true))) ∧ ((((IntKind.i64) = (IntKind.i64)) ∧ ((Int.ofNat y1) = ((0 : Int)))) ∧ True)))) ∧ True))) ∧ (∀ y1 : Nat, ((y1 ≤ na ∧ ((natAll (fun (i : Nat) => decide (FD.i (fa i (0 : Nat)) = FD.i (fb i (0 : Nat)))) y1) = (true))) → ((((decide (Int.ofNat y1 < Int.ofNat na)) = (true)) → ((((decide ((0 : Int) ≤ Int.ofNat y1) && decide (Int.ofNat y1 < (↑na : Int))) = (true)) → ((((decide ((0 : Int) ≤ Int.ofNat y1) && decide (Int.ofNat y1 < (↑nb : Int))) = (true)) → ((((decide (FD.i (fa (Int.toNat (Int.ofNat y1)) (0 : Nat)) = FD.i (fb (Int.toNat (Int.ofNat y1)) (0 : Nat)))) = (false)) → ((intsB na fa nb fb) = (false))) ∧ (((decide (FD.i (fa (Int.toNat (Int.ofNat y1)) (0 : Nat)) = FD.i (fb (Int.toNat (Int.ofNat y1)) (0 : Nat)))) = (true)) → (∃ y2 : Nat, (((y2 ≤ na ∧ ((natAll (fun (i : Nat) => decide (FD.i (fa i (0 : Nat)) = FD.i (fb i (0 : Nat)))) y2) = (true))) ∧ na - y2 < na - y1) ∧ (((true = true) ∧ ((((Ref.root (0 : Nat) (0 : Nat)) = (Ref.root (0 : Nat) (0 : Nat))) ∧ (((FD.list [Sh.int IntKind.i64] na fa) = (FD.list [Sh.int IntKind.i64] na fa)) ∧ (true = true))) ∧ ((((Ref.root (0 : Nat) (1 : Nat)) = (Ref.root (0 : Nat) (1 : Nat))) ∧ (((FD.list [Sh.int IntKind.i64] nb fb) = (FD.list [Sh.int IntKind.i64] nb fb)) ∧ (true = true))) ∧ ((((IntKind.i64) = (IntKind.i64)) ∧ ((Int.ofNat y2) = (IntKind.wrap IntKind.i64 (Int.ofNat y1 + (1 : Int))))) ∧ True)))) ∧ True)))))) ∧ (((decide ((0 : Int) ≤ Int.ofNat y1) && decide (Int.ofNat y1 < (↑nb : Int))) = (false)) → False))) ∧ (((decide ((0 : Int) ≤ Int.ofNat y1) && decide (Int.ofNat y1 < (↑na : Int))) = (false)) → False))) ∧ (((decide (Int.ofNat y1 < Int.ofNat na)) = (false)) → ((intsB na fa nb fb) = (true))))))))))) := by kernel_rfl
  refine hvc.mpr ?_
  clear hvc
  have hl := ga.len
  have hl' : maxLen = 9223372036854775807 := rfl
  simp
  refine ⟨fun h => ?_, fun h => ⟨rfl, fun x hx he => ⟨fun hlt => ⟨fun _ => ⟨fun _ => ⟨fun hne => ?_, fun heq => ⟨x + 1, ⟨⟨by omega, natAll_step he (by simp [heq])⟩, by omega⟩, ?_⟩⟩, by omega⟩, hlt⟩, fun hge => ?_⟩⟩⟩
  · rw [intsB, show Nat.beq na nb = false by rw [Bool.eq_false_iff]; exact fun h' => by have := Nat.eq_of_beq_eq_true h'; omega]
    rfl
  · rw [intsB, natAll_false hlt (by simp [hne]), Bool.and_false]
  · rw [wrap_id (by omega) (by omega)]
    rfl
  · obtain rfl : x = na := by omega
    obtain rfl : x = nb := by omega
    rw [intsB, he, Nat.beq_refl]
    rfl
def ModS : List PT := [.one (.int .i64), .one (.int .i64)]
def ModC : List FD → Bool
  | [.int _ _, .int _ b] => !decide (b = 0)
  | _ => false
def ModR : List FD → List FD
  | [.int _ a, .int _ b] => [.int .i64 (if a.tmod b < 0 then IntKind.i64.wrap (a.tmod b + b) else a.tmod b)]
  | _ => []
def ModI (_a : Int) (_b : Int) : Nat → AFam := alts (fun _ => [])
theorem Mod_ok : FnOk (mkR smH gs4) Try.prog η0 116 (FI.of Try.f116 true) ModS (.one (.int .i64)) ModC ModR := by
  refine fnOk_of0 smH_ok gs4_ok Try.fok116 (fun fds => match fds with | [.int _ a, .int _ b] => ModI a b | _ => alts fun _ => []) ?_
  intro fds hf hc
  obtain ⟨a, ds0, rfl, hf1⟩ := hf.int
  obtain ⟨b, ds1, rfl, hf2⟩ := hf1.int
  obtain rfl := hf2.nil
  have hc : (!decide (b = 0)) = true := hc
  have hvc : (vcF smH gs4 (FI.of Try.f116 true) ModS (.one (.int .i64)) (ModI a b) noR [.int .i64 a, .int .i64 b] (ModR [.int .i64 a, .int .i64 b])) =
    ((true = true) ∧ ((((!decide (b = (0 : Int))) = (true)) → ((((decide (Int.tmod a b < (0 : Int))) = (true)) → (((IntKind.i64) = (IntKind.i64)) ∧ ((if Int.tmod a b < (0 : Int) then IntKind.wrap IntKind.i64 (Int.tmod a b + b) else Int.tmod a b) = (IntKind.wrap IntKind.i64 (Int.tmod a b + b))))) ∧ (((decide (Int.tmod a b < (0 : Int))) = (false)) → (((IntKind.i64) = (IntKind.i64)) ∧ ((if Int.tmod a b < (0 : Int) then IntKind.wrap IntKind.i64 (Int.tmod a b + b) else Int.tmod a b) = (Int.tmod a b)))))) ∧ (((!decide (b = (0 : Int))) = (false)) → False))) := by kernel_rfl
  refine hvc.mpr ?_
  clear hvc
  simp only [Bool.not_eq_true', decide_eq_false_iff_not] at hc
  simp [hc]
  exact ⟨fun h1 h2 => by omega, fun h1 h2 => by omega⟩
def bladesErrS : List PT := [.agg [.int .i64, .int .i64, .int .i64, .int .i64], .one (.list [.int .i64])]
def bladesErrC : List FD → Bool
  | [.int _ _, .int _ _, .int _ _, .int _ _, .list _ _ _] => true
  | _ => false
def bladesErrR : List FD → List FD
  | [.int _ st, .int _ _, .int _ _, .int _ _, .list _ nb fb] => [.int .i64 (if (nb : Int) = st then (if anyN (fun i => outB 2 (fb i 0).i) nb 0 = true then 2 else 0) else 12)]
  | _ => []
def bladesErrI (st : Int) (pl : Int) (ho : Int) (ge : Int) (nb : Nat) (fb : Nat → Nat → FD) : Nat → AFam := fun i => match i with | 4 => ⟨Nat, fun _ => [{ι := Nat, G := fun x => x ≤ nb ∧ (∀ i, i < x → 0 ≤ (fb i 0).i ∧ (fb i 0).i ≤ 2), μ := fun x => nb - x, tl := fun x => [(0, .agg [.int IntKind.i64 (.tm st), .int IntKind.i64 (.tm pl), .int IntKind.i64 (.tm ho), .int IntKind.i64 (.tm ge)]), (1, .one (.fz (.root 0 4) (FD.list [Sh.int IntKind.i64] nb fb))), (2, .one (.ptr (some (1, 0)))), (5, .one (.int IntKind.i64 (.tm (Int.ofNat x))))], bl := fun x => [(1, .cells 47 4 [.int IntKind.i64 (.tm st), .int IntKind.i64 (.tm pl), .int IntKind.i64 (.tm ho), .int IntKind.i64 (.tm ge)])], nx := (1 : Nat) + (1 : Nat)}]⟩ | _ => ⟨Nat, fun _ => []⟩
theorem bladesErr_ok : FnOk (mkR smH gs4) Try.prog η0 31 (FI.of Try.f31 true) bladesErrS (.one (.int .i64)) bladesErrC bladesErrR := by
  refine fnOk_of0 smH_ok gs4_ok Try.fok31 (fun fds => match fds with | [.int _ st, .int _ pl, .int _ ho, .int _ ge, .list _ nb fb] => bladesErrI st pl ho ge nb fb | _ => alts fun _ => []) ?_
  intro fds hf hc
  obtain ⟨st, ds0, rfl, hf1⟩ := hf.int
  obtain ⟨pl, ds1, rfl, hf2⟩ := hf1.int
  obtain ⟨ho, ds2, rfl, hf3⟩ := hf2.int
  obtain ⟨ge, ds3, rfl, hf4⟩ := hf3.int
  obtain ⟨nb, fb, ds4, rfl, gb, hf5⟩ := hf4.list
  obtain rfl := hf5.nil
  have hc : (true) = true := hc
  have hvc : (vcF smH gs4 (FI.of Try.f31 true) bladesErrS (.one (.int .i64)) (bladesErrI st pl ho ge nb fb) noR [.int .i64 st, .int .i64 pl, .int .i64 ho, .int .i64 ge, .list [.int .i64] nb fb] (bladesErrR [.int .i64 st, .int .i64 pl, .int .i64 ho, .int .i64 ge, .list [.int .i64] nb fb])) =
    ((true = true) ∧ ((((decide (Int.ofNat nb = st)) = (false)) → (((IntKind.i64) = (IntKind.i64)) ∧ ((if (↑nb : Int) = st then if anyN (fun (i : Nat) => outB (2 : Int) (FD.i (fb i (0 : Nat)))) nb (0 : Nat) = true then (2 : Int) else (0 : Int) else (12 : Int)) = ((12 : Int))))) ∧ (((decide (Int.ofNat nb = st)) = (true)) → (∃ y0 : Nat, ((∃ y1 : Nat, (((y1 ≤ nb ∧ (∀ y2 : Nat, (y2 < y1 → ((0 : Int) ≤ FD.i (fb y2 (0 : Nat)) ∧ FD.i (fb y2 (0 : Nat)) ≤ (2 : Int))))) ∧ True) ∧ (((true = true) ∧ (((((IntKind.i64) = (IntKind.i64)) ∧ ((st) = (st))) ∧ ((((IntKind.i64) = (IntKind.i64)) ∧ ((pl) = (pl))) ∧ ((((IntKind.i64) = (IntKind.i64)) ∧ ((ho) = (ho))) ∧ ((((IntKind.i64) = (IntKind.i64)) ∧ ((ge) = (ge))) ∧ True)))) ∧ ((((Ref.root (0 : Nat) (4 : Nat)) = (Ref.root (0 : Nat) ((0 : Nat) + List.length [Sh.int IntKind.i64, Sh.int IntKind.i64, Sh.int IntKind.i64, Sh.int IntKind.i64]))) ∧ (((FD.list [Sh.int IntKind.i64] nb fb) = (FD.list [Sh.int IntKind.i64] nb fb)) ∧ (true = true))) ∧ ((((1, 1) ∈ ([(1, 1)] : List (Nat × Nat))) ∧ ((Prod.snd ((1 : Nat), (0 : Nat))) = (Prod.snd ((1 : Nat), (0 : Nat))))) ∧ ((((IntKind.i64) = (IntKind.i64)) ∧ ((Int.ofNat y1) = ((0 : Int)))) ∧ True))))) ∧ (((((47 : TypeId)) = ((47 : Nat))) ∧ ((((4 : Nat)) = (List.length [Sc.int IntKind.i64 (Ix.tm st), Sc.int IntKind.i64 (Ix.tm pl), Sc.int IntKind.i64 (Ix.tm ho), Sc.int IntKind.i64 (Ix.tm ge)])) ∧ ((((IntKind.i64) = (IntKind.i64)) ∧ ((st) = (st))) ∧ ((((IntKind.i64) = (IntKind.i64)) ∧ ((pl) = (pl))) ∧ ((((IntKind.i64) = (IntKind.i64)) ∧ ((ho) = (ho))) ∧ ((((IntKind.i64) = (IntKind.i64)) ∧ ((ge) = (ge))) ∧ True)))))) ∧ True)))) ∧ (∀ y1 : Nat, ((y1 ≤ nb ∧ (∀ y2 : Nat, (y2 < y1 → ((0 : Int) ≤ FD.i (fb y2 (0 : Nat)) ∧ FD.i (fb y2 (0 : Nat)) ≤ (2 : Int))))) → ((((decide (Int.ofNat y1 < Int.ofNat nb)) = (true)) → ((((decide ((0 : Int) ≤ Int.ofNat y1) && decide (Int.ofNat y1 < (↑nb : Int))) = (true)) → (((true = true) → ((((decide ((0 : Int) ≤ FD.i (fb (Int.toNat (Int.ofNat y1)) (0 : Nat))) && decide (FD.i (fb (Int.toNat (Int.ofNat y1)) (0 : Nat)) ≤ (2 : Int))) = (false)) → (((IntKind.i64) = (IntKind.i64)) ∧ ((if (↑nb : Int) = st then if anyN (fun (i : Nat) => outB (2 : Int) (FD.i (fb i (0 : Nat)))) nb (0 : Nat) = true then (2 : Int) else (0 : Int) else (12 : Int)) = ((2 : Int))))) ∧ (((decide ((0 : Int) ≤ FD.i (fb (Int.toNat (Int.ofNat y1)) (0 : Nat))) && decide (FD.i (fb (Int.toNat (Int.ofNat y1)) (0 : Nat)) ≤ (2 : Int))) = (true)) → (∃ y2 : Nat, (((y2 ≤ nb ∧ (∀ y3 : Nat, (y3 < y2 → ((0 : Int) ≤ FD.i (fb y3 (0 : Nat)) ∧ FD.i (fb y3 (0 : Nat)) ≤ (2 : Int))))) ∧ nb - y2 < nb - y1) ∧ (((true = true) ∧ (((((IntKind.i64) = (IntKind.i64)) ∧ ((st) = (st))) ∧ ((((IntKind.i64) = (IntKind.i64)) ∧ ((pl) = (pl))) ∧ ((((IntKind.i64) = (IntKind.i64)) ∧ ((ho) = (ho))) ∧ ((((IntKind.i64) = (IntKind.i64)) ∧ ((ge) = (ge))) ∧ True)))) ∧ ((((Ref.root (0 : Nat) (4 : Nat)) = (Ref.root (0 : Nat) (4 : Nat))) ∧ (((FD.list [Sh.int IntKind.i64] nb fb) = (FD.list [Sh.int IntKind.i64] nb fb)) ∧ (true = true))) ∧ ((((1, 1) ∈ ([(1, 1)] : List (Nat × Nat))) ∧ ((Prod.snd ((1 : Nat), (0 : Nat))) = (Prod.snd ((1 : Nat), (0 : Nat))))) ∧ ((((IntKind.i64) = (IntKind.i64)) ∧ ((Int.ofNat y2) = (IntKind.wrap IntKind.i64 (Int.ofNat y1 + (1 : Int))))) ∧ True))))) ∧ (((((47 : TypeId)) = ((47 : TypeId))) ∧ ((((4 : Nat)) = ((4 : Nat))) ∧ ((((IntKind.i64) = (IntKind.i64)) ∧ ((st) = (st))) ∧ ((((IntKind.i64) = (IntKind.i64)) ∧ ((pl) = (pl))) ∧ ((((IntKind.i64) = (IntKind.i64)) ∧ ((ho) = (ho))) ∧ ((((IntKind.i64) = (IntKind.i64)) ∧ ((ge) = (ge))) ∧ True)))))) ∧ True))))))) ∧ ((true = false) → False))) ∧ (((decide ((0 : Int) ≤ Int.ofNat y1) && decide (Int.ofNat y1 < (↑nb : Int))) = (false)) → False))) ∧ (((decide (Int.ofNat y1 < Int.ofNat nb)) = (false)) → (((IntKind.i64) = (IntKind.i64)) ∧ ((if (↑nb : Int) = st then if anyN (fun (i : Nat) => outB (2 : Int) (FD.i (fb i (0 : Nat)))) nb (0 : Nat) = true then (2 : Int) else (0 : Int) else (12 : Int)) = ((0 : Int))))))))))))) := by kernel_rfl
  refine hvc.mpr ?_
  clear hvc
  have hl := gb.len
  have hl' : maxLen = 9223372036854775807 := rfl
  simp
  refine ⟨fun h g => absurd g h, fun h x hx hin => ⟨fun hlt => ⟨fun _ => ⟨fun ho => ?_, fun a b => ⟨x + 1, ⟨⟨by omega, fun y hy => ?_⟩, by omega⟩, ?_⟩⟩, hlt⟩, fun hge => ?_⟩⟩
  · rw [if_pos h, if_pos (anyN_out hlt (by omega))]
  · by_cases e : y = x
    · subst e; exact ⟨a, b⟩
    · exact hin y (by omega)
  · rw [wrap_id (by omega) (by omega)]
    rfl
  · rw [if_pos h, anyN_in (fun i hi => hin i (by omega))]
    rfl
end
end Go.Ex


namespace Go.Ex
open Go Go.Proofs Go.RowKit
noncomputable section
set_option maxRecDepth 1000000

def slackE (nu de : Int) : Int := if 0 < de ∧ (gcdF nu de = 1 ∨ gcdF nu de = -1) then (if (0 ≤ nu ∧ nu ≤ de) ∧ de ≤ 4 then 0 else 2) else 13
/-- The error of the rows of a table. -/
def rowsT (k : Nat) (f : Nat → Nat → FD) : Nat → Nat → Int
  | 0, _ => 0
  | n + 1, x => if (f x 0).ln = k then (if anyN (fun i => outB 100 ((f x 0).fn i 0).i) (f x 0).ln 0 = true then 2 else rowsT k f n (x + 1)) else 12
def taskE (n : Nat) (f : Nat → Nat → FD) (nu de : Int) : Int :=
  if n = 0 then 7 else if 6 < n then 8 else if (f 0 0).ln = 0 then 7 else if 3 < (f 0 0).ln then 8
  else if rowsT (f 0 0).ln f n 0 = 0 then slackE nu de else rowsT (f 0 0).ln f n 0
def checkTaskS : List PT := [.agg [.list [.list [.int .i64]], .int .i64, .int .i64]]
def checkTaskC : List FD → Bool
  | [.list _ _ _, .int _ _, .int _ _] => true
  | _ => false
def checkTaskR : List FD → List FD
  | [.list _ ntb ftb, .int _ nu, .int _ de] => [.int .i64 (taskE ntb ftb nu de)]
  | _ => []
def checkTaskI (ntb : Nat) (ftb : Nat → Nat → FD) (nu : Int) (de : Int) : Nat → AFam := fun i => match i with | 10 => ⟨Nat, fun _ => [{ι := Nat, G := fun x => x ≤ ntb ∧ rowsT (ftb 0 0).ln ftb (ntb - x) x = rowsT (ftb 0 0).ln ftb ntb 0, μ := fun x => ntb - x, tl := fun x => [(1, .one (.ptr (some (1, 0)))), (32, .one (.fz (.root 0 0) (FD.list [Sh.list [Sh.int IntKind.i64]] ntb ftb))), (33, .one (.int IntKind.i64 (.tm (Int.ofNat ntb)))), (34, .one (.int IntKind.i64 (.tm (Int.ofNat x))))], bl := fun x => [(1, .cells 58 3 [.fz (.root 0 0) (FD.list [Sh.list [Sh.int IntKind.i64]] ntb ftb), .int IntKind.i64 (.tm nu), .int IntKind.i64 (.tm de)])], nx := (1 : Nat) + (1 : Nat)}]⟩ | _ => ⟨Nat, fun _ => []⟩
theorem checkTask_ok : FnOk (mkR smH gs4) Try.prog η0 63 (FI.of Try.f63 true) checkTaskS (.one (.int .i64)) checkTaskC checkTaskR := by
  refine fnOk_of0 smH_ok gs4_ok Try.fok63 (fun fds => match fds with | [.list _ ntb ftb, .int _ nu, .int _ de] => checkTaskI ntb ftb nu de | _ => alts fun _ => []) ?_
  intro fds hf hc
  obtain ⟨ntb, ftb, ds0, rfl, gtb, hf1⟩ := hf.list
  obtain ⟨nu, ds1, rfl, hf2⟩ := hf1.int
  obtain ⟨de, ds2, rfl, hf3⟩ := hf2.int
  obtain rfl := hf3.nil
  have hc : (true) = true := hc
  have hvc : (vcF smH gs4 (FI.of Try.f63 true) checkTaskS (.one (.int .i64)) (checkTaskI ntb ftb nu de) noR [.list [.list [.int .i64]] ntb ftb, .int .i64 nu, .int .i64 de] (checkTaskR [.list [.list [.int .i64]] ntb ftb, .int .i64 nu, .int .i64 de])) =
    ((true = true) ∧ ((((decide (Int.ofNat ntb = (0 : Int))) = (true)) → (((IntKind.i64) = (IntKind.i64)) ∧ ((taskE ntb ftb nu de) = ((7 : Int))))) ∧ (((decide (Int.ofNat ntb = (0 : Int))) = (false)) → ((((decide ((6 : Int) < Int.ofNat ntb)) = (true)) → (((IntKind.i64) = (IntKind.i64)) ∧ ((taskE ntb ftb nu de) = ((8 : Int))))) ∧ (((decide ((6 : Int) < Int.ofNat ntb)) = (false)) → ((((decide ((0 : Int) ≤ (0 : Int)) && decide ((0 : Int) < (↑ntb : Int))) = (true)) → ((((decide (Int.ofNat (FD.ln (ftb (Int.toNat (0 : Int)) (0 : Nat))) = (0 : Int))) = (true)) → (((IntKind.i64) = (IntKind.i64)) ∧ ((taskE ntb ftb nu de) = ((7 : Int))))) ∧ (((decide (Int.ofNat (FD.ln (ftb (Int.toNat (0 : Int)) (0 : Nat))) = (0 : Int))) = (false)) → ((((decide ((0 : Int) ≤ (0 : Int)) && decide ((0 : Int) < (↑ntb : Int))) = (true)) → ((((decide ((3 : Int) < Int.ofNat (FD.ln (ftb (Int.toNat (0 : Int)) (0 : Nat))))) = (true)) → (((IntKind.i64) = (IntKind.i64)) ∧ ((taskE ntb ftb nu de) = ((8 : Int))))) ∧ (((decide ((3 : Int) < Int.ofNat (FD.ln (ftb (Int.toNat (0 : Int)) (0 : Nat))))) = (false)) → (∃ y0 : Nat, ((∃ y1 : Nat, (((y1 ≤ ntb ∧ ((rowsT (FD.ln (ftb (0 : Nat) (0 : Nat))) ftb (ntb - y1) y1) = (rowsT (FD.ln (ftb (0 : Nat) (0 : Nat))) ftb ntb (0 : Nat)))) ∧ True) ∧ (((true = true) ∧ ((((1, 1) ∈ ([(1, 1)] : List (Nat × Nat))) ∧ ((Prod.snd ((1 : Nat), (0 : Nat))) = (Prod.snd ((1 : Nat), (0 : Nat))))) ∧ ((((Ref.root (0 : Nat) (0 : Nat)) = (Ref.root (0 : Nat) (0 : Nat))) ∧ (((FD.list [Sh.list [Sh.int IntKind.i64]] ntb ftb) = (FD.list [Sh.list [Sh.int IntKind.i64]] ntb ftb)) ∧ (true = true))) ∧ ((((IntKind.i64) = (IntKind.i64)) ∧ ((Int.ofNat ntb) = (Int.ofNat ntb))) ∧ ((((IntKind.i64) = (IntKind.i64)) ∧ ((Int.ofNat y1) = ((0 : Int)))) ∧ True))))) ∧ (((((58 : TypeId)) = ((58 : Nat))) ∧ ((((3 : Nat)) = (List.length [Sc.fz (Ref.root (0 : Nat) (0 : Nat)) (FD.list [Sh.list [Sh.int IntKind.i64]] ntb ftb), Sc.int IntKind.i64 (Ix.tm nu), Sc.int IntKind.i64 (Ix.tm de)])) ∧ ((((Ref.root (0 : Nat) (0 : Nat)) = (Ref.root (0 : Nat) (0 : Nat))) ∧ (((FD.list [Sh.list [Sh.int IntKind.i64]] ntb ftb) = (FD.list [Sh.list [Sh.int IntKind.i64]] ntb ftb)) ∧ (true = true))) ∧ ((((IntKind.i64) = (IntKind.i64)) ∧ ((nu) = (nu))) ∧ ((((IntKind.i64) = (IntKind.i64)) ∧ ((de) = (de))) ∧ True))))) ∧ True)))) ∧ (∀ y1 : Nat, ((y1 ≤ ntb ∧ ((rowsT (FD.ln (ftb (0 : Nat) (0 : Nat))) ftb (ntb - y1) y1) = (rowsT (FD.ln (ftb (0 : Nat) (0 : Nat))) ftb ntb (0 : Nat)))) → ((((decide (Int.ofNat y1 < Int.ofNat ntb)) = (true)) → ((((decide ((0 : Int) ≤ Int.ofNat y1) && decide (Int.ofNat y1 < (↑ntb : Int))) = (true)) → ((((decide ((0 : Int) ≤ (0 : Int)) && decide ((0 : Int) < (↑ntb : Int))) = (true)) → ((((decide (Int.ofNat (FD.ln (ftb (Int.toNat (Int.ofNat y1)) (0 : Nat))) = Int.ofNat (FD.ln (ftb (Int.toNat (0 : Int)) (0 : Nat))))) = (false)) → (((IntKind.i64) = (IntKind.i64)) ∧ ((taskE ntb ftb nu de) = ((12 : Int))))) ∧ (((decide (Int.ofNat (FD.ln (ftb (Int.toNat (Int.ofNat y1)) (0 : Nat))) = Int.ofNat (FD.ln (ftb (Int.toNat (0 : Int)) (0 : Nat))))) = (true)) → (((true = true) → ((((anyN (fun (i : Nat) => outB (100 : Int) (FD.i (FD.fn (ftb (Int.toNat (Int.ofNat y1)) (0 : Nat)) i (0 : Nat)))) (FD.ln (ftb (Int.toNat (Int.ofNat y1)) (0 : Nat))) (0 : Nat)) = (true)) → (((IntKind.i64) = (IntKind.i64)) ∧ ((taskE ntb ftb nu de) = ((2 : Int))))) ∧ (((anyN (fun (i : Nat) => outB (100 : Int) (FD.i (FD.fn (ftb (Int.toNat (Int.ofNat y1)) (0 : Nat)) i (0 : Nat)))) (FD.ln (ftb (Int.toNat (Int.ofNat y1)) (0 : Nat))) (0 : Nat)) = (false)) → (∃ y2 : Nat, (((y2 ≤ ntb ∧ ((rowsT (FD.ln (ftb (0 : Nat) (0 : Nat))) ftb (ntb - y2) y2) = (rowsT (FD.ln (ftb (0 : Nat) (0 : Nat))) ftb ntb (0 : Nat)))) ∧ ntb - y2 < ntb - y1) ∧ (((true = true) ∧ ((((1, 1) ∈ ([(1, 1)] : List (Nat × Nat))) ∧ ((Prod.snd ((1 : Nat), (0 : Nat))) = (Prod.snd ((1 : Nat), (0 : Nat))))) ∧ ((((Ref.root (0 : Nat) (0 : Nat)) = (Ref.root (0 : Nat) (0 : Nat))) ∧ (((FD.list [Sh.list [Sh.int IntKind.i64]] ntb ftb) = (FD.list [Sh.list [Sh.int IntKind.i64]] ntb ftb)) ∧ (true = true))) ∧ ((((IntKind.i64) = (IntKind.i64)) ∧ ((Int.ofNat ntb) = (Int.ofNat ntb))) ∧ ((((IntKind.i64) = (IntKind.i64)) ∧ ((Int.ofNat y2) = (IntKind.wrap IntKind.i64 (Int.ofNat y1 + (1 : Int))))) ∧ True))))) ∧ (((((58 : TypeId)) = ((58 : TypeId))) ∧ ((((3 : Nat)) = ((3 : Nat))) ∧ ((((Ref.root (0 : Nat) (0 : Nat)) = (Ref.root (0 : Nat) (0 : Nat))) ∧ (((FD.list [Sh.list [Sh.int IntKind.i64]] ntb ftb) = (FD.list [Sh.list [Sh.int IntKind.i64]] ntb ftb)) ∧ (true = true))) ∧ ((((IntKind.i64) = (IntKind.i64)) ∧ ((nu) = (nu))) ∧ ((((IntKind.i64) = (IntKind.i64)) ∧ ((de) = (de))) ∧ True))))) ∧ True))))))) ∧ ((true = false) → False))))) ∧ (((decide ((0 : Int) ≤ (0 : Int)) && decide ((0 : Int) < (↑ntb : Int))) = (false)) → False))) ∧ (((decide ((0 : Int) ≤ Int.ofNat y1) && decide (Int.ofNat y1 < (↑ntb : Int))) = (false)) → False))) ∧ (((decide (Int.ofNat y1 < Int.ofNat ntb)) = (false)) → (((true = true) → ((((decide ((0 : Int) < de)) = (true)) → ((((decide (gcdF nu de = (1 : Int))) = (true)) → (((true = true) → ((((decide ((0 : Int) ≤ nu) && decide (nu ≤ de)) = (true)) → ((((decide ((4 : Int) < de)) = (true)) → (((IntKind.i64) = (IntKind.i64)) ∧ ((taskE ntb ftb nu de) = ((2 : Int))))) ∧ (((decide ((4 : Int) < de)) = (false)) → (((IntKind.i64) = (IntKind.i64)) ∧ ((taskE ntb ftb nu de) = ((0 : Int))))))) ∧ (((decide ((0 : Int) ≤ nu) && decide (nu ≤ de)) = (false)) → (((IntKind.i64) = (IntKind.i64)) ∧ ((taskE ntb ftb nu de) = ((2 : Int))))))) ∧ ((true = false) → False))) ∧ (((decide (gcdF nu de = (1 : Int))) = (false)) → ((((decide (gcdF nu de = (-1 : Int))) = (false)) → (((IntKind.i64) = (IntKind.i64)) ∧ ((taskE ntb ftb nu de) = ((13 : Int))))) ∧ (((decide (gcdF nu de = (-1 : Int))) = (true)) → (((true = true) → ((((decide ((0 : Int) ≤ nu) && decide (nu ≤ de)) = (true)) → ((((decide ((4 : Int) < de)) = (true)) → (((IntKind.i64) = (IntKind.i64)) ∧ ((taskE ntb ftb nu de) = ((2 : Int))))) ∧ (((decide ((4 : Int) < de)) = (false)) → (((IntKind.i64) = (IntKind.i64)) ∧ ((taskE ntb ftb nu de) = ((0 : Int))))))) ∧ (((decide ((0 : Int) ≤ nu) && decide (nu ≤ de)) = (false)) → (((IntKind.i64) = (IntKind.i64)) ∧ ((taskE ntb ftb nu de) = ((2 : Int))))))) ∧ ((true = false) → False))))))) ∧ (((decide ((0 : Int) < de)) = (false)) → (((IntKind.i64) = (IntKind.i64)) ∧ ((taskE ntb ftb nu de) = ((13 : Int))))))) ∧ ((true = false) → False))))))))))) ∧ (((decide ((0 : Int) ≤ (0 : Int)) && decide ((0 : Int) < (↑ntb : Int))) = (false)) → False))))) ∧ (((decide ((0 : Int) ≤ (0 : Int)) && decide ((0 : Int) < (↑ntb : Int))) = (false)) → False))))))) := by kernel_rfl
  refine hvc.mpr ?_
  clear hvc
  simp
  refine ⟨fun h => by simp [taskE, h], fun h0 => ⟨fun h => ?_, fun h1 => ⟨fun _ => ⟨fun h => ?_, fun h2 => ⟨fun _ => ⟨fun h => ?_, fun h3 => fun x hx he => ?_⟩, h0⟩⟩, h0⟩⟩⟩
  · rw [taskE, if_neg h0, if_pos (by omega)]
  · rw [taskE, if_neg h0, if_neg (by omega), if_pos h]
  · rw [taskE, if_neg h0, if_neg (by omega), if_neg h2, if_pos (by omega)]
  · have hT : taskE ntb ftb nu de = if rowsT (ftb 0 0).ln ftb (ntb - x) x = 0 then slackE nu de else rowsT (ftb 0 0).ln ftb (ntb - x) x := by
      rw [taskE, if_neg h0, if_neg (by omega), if_neg h2, if_neg (by omega), he]
    refine ⟨fun hlt => ⟨fun _ => ⟨fun _ => ⟨fun hne => ?_, fun heq => ⟨fun ho => ?_, fun ho => ⟨x + 1, ⟨⟨by omega, ?_⟩, by omega⟩, ?_⟩⟩⟩, h0⟩, hlt⟩, fun hge => ?_⟩
    · rw [hT, show ntb - x = ntb - (x + 1) + 1 by omega, rowsT, if_neg (show ¬ (ftb x 0).ln = (ftb 0 0).ln by omega)]; rfl
    · rw [hT, show ntb - x = ntb - (x + 1) + 1 by omega, rowsT, if_pos (show (ftb x 0).ln = (ftb 0 0).ln by omega), if_pos ho]; rfl
    · rw [← he, show ntb - x = ntb - (x + 1) + 1 by omega, rowsT, if_pos (show (ftb x 0).ln = (ftb 0 0).ln by omega), ho]; rfl
    · rw [wrap_id (by omega) (by omega)]
      rfl
    · rw [hT, show ntb - x = 0 by omega, rowsT, if_pos rfl]
      unfold slackE
      refine ⟨fun hd => ⟨fun hg => ⟨fun a b => ⟨fun c => ?_, fun c => ?_⟩, fun a => ?_⟩, fun hg => ⟨fun hg' => ?_, fun hg' => ⟨fun a b => ⟨fun c => ?_, fun c => ?_⟩, fun a => ?_⟩⟩⟩, fun hd => ?_⟩
      · rw [if_pos ⟨hd, .inl hg⟩, if_neg (by omega)]
      · rw [if_pos ⟨hd, .inl hg⟩, if_pos (by omega)]
      · rw [if_pos ⟨hd, .inl hg⟩, if_neg (by omega)]
      · rw [if_neg (by omega)]
      · rw [if_pos ⟨hd, .inr hg'⟩, if_neg (by omega)]
      · rw [if_pos ⟨hd, .inr hg'⟩, if_pos (by omega)]
      · rw [if_pos ⟨hd, .inr hg'⟩, if_neg (by omega)]
      · rw [if_neg (by omega)]
theorem gcdT_abs : ∀ (n : Nat) (a b : Int), b ≠ 0 → b.natAbs < n → (gcdT n a b).natAbs ≤ b.natAbs
  | 0, _, _, _, h => by omega
  | n + 1, a, b, hb, h => by
    have h1 := tmod_lt a hb
    simp only [gcdT, if_neg hb]
    by_cases h2 : a.tmod b = 0
    · rw [h2]
      cases n with
      | zero => simp [gcdT]
      | succ n => simp [gcdT]
    · have := gcdT_abs n b (a.tmod b) h2 (by omega)
      omega
theorem gcdF_abs {a b : Int} (hb : b ≠ 0) : (gcdF a b).natAbs ≤ b.natAbs := gcdT_abs _ a b hb (by omega)
def rngB (n : Int) : Bool := decide (-9223372036854775808 ≤ n) && decide (n ≤ 9223372036854775807)
theorem rngB_iff {n : Int} (h : rngB n = true) : -9223372036854775808 ≤ n ∧ n ≤ 9223372036854775807 := by
  simpa [rngB] using h
def IsLowestS : List PT := [.agg [.int .i64, .int .i64]]
def IsLowestC : List FD → Bool
  | [.int _ _, .int _ de] => rngB de
  | _ => false
def IsLowestR : List FD → List FD
  | [.int _ nu, .int _ de] => [.bool (decide (0 < de) && (decide (gcdF nu de = 1) || decide (gcdF nu de = -1)))]
  | _ => []
def IsLowestI (_nu : Int) (_de : Int) : Nat → AFam := alts (fun _ => [])
theorem IsLowest_ok : FnOk (mkR smH gs4) Try.prog η0 101 (FI.of Try.f101 true) IsLowestS (.one .bool) IsLowestC IsLowestR := by
  refine fnOk_of0 smH_ok gs4_ok Try.fok101 (fun fds => match fds with | [.int _ nu, .int _ de] => IsLowestI nu de | _ => alts fun _ => []) ?_
  intro fds hf hc
  obtain ⟨nu, ds0, rfl, hf1⟩ := hf.int
  obtain ⟨de, ds1, rfl, hf2⟩ := hf1.int
  obtain rfl := hf2.nil
  have hc : (rngB de) = true := hc
  have hvc : (vcF smH gs4 (FI.of Try.f101 true) IsLowestS (.one .bool) (IsLowestI nu de) noR [.int .i64 nu, .int .i64 de] (IsLowestR [.int .i64 nu, .int .i64 de])) =
    ((true = true) ∧ ((((decide ((0 : Int) < de)) = (true)) → (((true = true) → ((decide ((0 : Int) < de) && (decide (gcdF nu de = (1 : Int)) || decide (gcdF nu de = (-1 : Int)))) = (decide ((if gcdF nu de < IntKind.wrap IntKind.i64 (-gcdF nu de) then IntKind.wrap IntKind.i64 (-gcdF nu de) else gcdF nu de) = (1 : Int))))) ∧ ((true = false) → False))) ∧ (((decide ((0 : Int) < de)) = (false)) → ((decide ((0 : Int) < de) && (decide (gcdF nu de = (1 : Int)) || decide (gcdF nu de = (-1 : Int)))) = (false))))) := by kernel_rfl
  refine hvc.mpr ?_
  clear hvc
  have hr := rngB_iff hc
  simp
  refine ⟨fun hd => ?_, by omega⟩
  have := gcdF_abs (a := nu) (b := de) (by omega)
  rw [wrap_id (by omega) (by omega), decide_eq_true hd, Bool.true_and, Bool.eq_iff_iff]
  simp only [Bool.or_eq_true, decide_eq_true_eq]
  split <;> omega
def smallS : List PT := [.agg [.list [.list [.int .i64]], .int .i64, .int .i64]]
def smallC : List FD → Bool
  | [.list _ _ _, .int _ _, .int _ _] => true
  | _ => false
def smallR : List FD → List FD
  | [.list _ ntb ftb, .int _ _, .int _ _] => [.bool (Nat.ble ntb 8 && !(anyN (fun i => Nat.blt 5 (ftb i 0).ln) ntb 0))]
  | _ => []
def smallI (ntb : Nat) (ftb : Nat → Nat → FD) (nu : Int) (de : Int) : Nat → AFam := fun i => match i with | 4 => ⟨Nat, fun _ => [{ι := Nat, G := fun x => x ≤ ntb ∧ anyN (fun i => Nat.blt 5 (ftb i 0).ln) (ntb - x) x = anyN (fun i => Nat.blt 5 (ftb i 0).ln) ntb 0, μ := fun x => ntb - x, tl := fun x => [(0, .agg [.fz (.root 0 0) (FD.list [Sh.list [Sh.int IntKind.i64]] ntb ftb), .int IntKind.i64 (.tm nu), .int IntKind.i64 (.tm de)]), (1, .one (.ptr (some (1, 0)))), (3, .one (.int IntKind.i64 (.tm (Int.ofNat x))))], bl := fun x => [(1, .cells 58 3 [.fz (.root 0 0) (FD.list [Sh.list [Sh.int IntKind.i64]] ntb ftb), .int IntKind.i64 (.tm nu), .int IntKind.i64 (.tm de)])], nx := (1 : Nat) + (1 : Nat)}]⟩ | _ => ⟨Nat, fun _ => []⟩
theorem small_ok : FnOk (mkR smH gs4) Try.prog η0 58 (FI.of Try.f58 true) smallS (.one .bool) smallC smallR := by
  refine fnOk_of0 smH_ok gs4_ok Try.fok58 (fun fds => match fds with | [.list _ ntb ftb, .int _ nu, .int _ de] => smallI ntb ftb nu de | _ => alts fun _ => []) ?_
  intro fds hf hc
  obtain ⟨ntb, ftb, ds0, rfl, gtb, hf1⟩ := hf.list
  obtain ⟨nu, ds1, rfl, hf2⟩ := hf1.int
  obtain ⟨de, ds2, rfl, hf3⟩ := hf2.int
  obtain rfl := hf3.nil
  have hc : (true) = true := hc
  have hvc : (vcF smH gs4 (FI.of Try.f58 true) smallS (.one .bool) (smallI ntb ftb nu de) noR [.list [.list [.int .i64]] ntb ftb, .int .i64 nu, .int .i64 de] (smallR [.list [.list [.int .i64]] ntb ftb, .int .i64 nu, .int .i64 de])) =
    ((true = true) ∧ ((((decide ((8 : Int) < Int.ofNat ntb)) = (true)) → ((Nat.ble ntb (8 : Nat) && !anyN (fun (i : Nat) => Nat.blt (5 : Nat) (FD.ln (ftb i (0 : Nat)))) ntb (0 : Nat)) = (false))) ∧ (((decide ((8 : Int) < Int.ofNat ntb)) = (false)) → (∃ y0 : Nat, ((∃ y1 : Nat, (((y1 ≤ ntb ∧ ((anyN (fun (i : Nat) => Nat.blt (5 : Nat) (FD.ln (ftb i (0 : Nat)))) (ntb - y1) y1) = (anyN (fun (i : Nat) => Nat.blt (5 : Nat) (FD.ln (ftb i (0 : Nat)))) ntb (0 : Nat)))) ∧ True) ∧ (((true = true) ∧ (((((Ref.root (0 : Nat) (0 : Nat)) = (Ref.root (0 : Nat) (0 : Nat))) ∧ (((FD.list [Sh.list [Sh.int IntKind.i64]] ntb ftb) = (FD.list [Sh.list [Sh.int IntKind.i64]] ntb ftb)) ∧ (true = true))) ∧ ((((IntKind.i64) = (IntKind.i64)) ∧ ((nu) = (nu))) ∧ ((((IntKind.i64) = (IntKind.i64)) ∧ ((de) = (de))) ∧ True))) ∧ ((((1, 1) ∈ ([(1, 1)] : List (Nat × Nat))) ∧ ((Prod.snd ((1 : Nat), (0 : Nat))) = (Prod.snd ((1 : Nat), (0 : Nat))))) ∧ ((((IntKind.i64) = (IntKind.i64)) ∧ ((Int.ofNat y1) = ((0 : Int)))) ∧ True)))) ∧ (((((58 : TypeId)) = ((58 : Nat))) ∧ ((((3 : Nat)) = (List.length [Sc.fz (Ref.root (0 : Nat) (0 : Nat)) (FD.list [Sh.list [Sh.int IntKind.i64]] ntb ftb), Sc.int IntKind.i64 (Ix.tm nu), Sc.int IntKind.i64 (Ix.tm de)])) ∧ ((((Ref.root (0 : Nat) (0 : Nat)) = (Ref.root (0 : Nat) (0 : Nat))) ∧ (((FD.list [Sh.list [Sh.int IntKind.i64]] ntb ftb) = (FD.list [Sh.list [Sh.int IntKind.i64]] ntb ftb)) ∧ (true = true))) ∧ ((((IntKind.i64) = (IntKind.i64)) ∧ ((nu) = (nu))) ∧ ((((IntKind.i64) = (IntKind.i64)) ∧ ((de) = (de))) ∧ True))))) ∧ True)))) ∧ (∀ y1 : Nat, ((y1 ≤ ntb ∧ ((anyN (fun (i : Nat) => Nat.blt (5 : Nat) (FD.ln (ftb i (0 : Nat)))) (ntb - y1) y1) = (anyN (fun (i : Nat) => Nat.blt (5 : Nat) (FD.ln (ftb i (0 : Nat)))) ntb (0 : Nat)))) → ((((decide (Int.ofNat y1 < Int.ofNat ntb)) = (true)) → ((((decide ((0 : Int) ≤ Int.ofNat y1) && decide (Int.ofNat y1 < (↑ntb : Int))) = (true)) → ((((decide ((5 : Int) < Int.ofNat (FD.ln (ftb (Int.toNat (Int.ofNat y1)) (0 : Nat))))) = (true)) → ((Nat.ble ntb (8 : Nat) && !anyN (fun (i : Nat) => Nat.blt (5 : Nat) (FD.ln (ftb i (0 : Nat)))) ntb (0 : Nat)) = (false))) ∧ (((decide ((5 : Int) < Int.ofNat (FD.ln (ftb (Int.toNat (Int.ofNat y1)) (0 : Nat))))) = (false)) → (∃ y2 : Nat, (((y2 ≤ ntb ∧ ((anyN (fun (i : Nat) => Nat.blt (5 : Nat) (FD.ln (ftb i (0 : Nat)))) (ntb - y2) y2) = (anyN (fun (i : Nat) => Nat.blt (5 : Nat) (FD.ln (ftb i (0 : Nat)))) ntb (0 : Nat)))) ∧ ntb - y2 < ntb - y1) ∧ (((true = true) ∧ (((((Ref.root (0 : Nat) (0 : Nat)) = (Ref.root (0 : Nat) (0 : Nat))) ∧ (((FD.list [Sh.list [Sh.int IntKind.i64]] ntb ftb) = (FD.list [Sh.list [Sh.int IntKind.i64]] ntb ftb)) ∧ (true = true))) ∧ ((((IntKind.i64) = (IntKind.i64)) ∧ ((nu) = (nu))) ∧ ((((IntKind.i64) = (IntKind.i64)) ∧ ((de) = (de))) ∧ True))) ∧ ((((1, 1) ∈ ([(1, 1)] : List (Nat × Nat))) ∧ ((Prod.snd ((1 : Nat), (0 : Nat))) = (Prod.snd ((1 : Nat), (0 : Nat))))) ∧ ((((IntKind.i64) = (IntKind.i64)) ∧ ((Int.ofNat y2) = (IntKind.wrap IntKind.i64 (Int.ofNat y1 + (1 : Int))))) ∧ True)))) ∧ (((((58 : TypeId)) = ((58 : TypeId))) ∧ ((((3 : Nat)) = ((3 : Nat))) ∧ ((((Ref.root (0 : Nat) (0 : Nat)) = (Ref.root (0 : Nat) (0 : Nat))) ∧ (((FD.list [Sh.list [Sh.int IntKind.i64]] ntb ftb) = (FD.list [Sh.list [Sh.int IntKind.i64]] ntb ftb)) ∧ (true = true))) ∧ ((((IntKind.i64) = (IntKind.i64)) ∧ ((nu) = (nu))) ∧ ((((IntKind.i64) = (IntKind.i64)) ∧ ((de) = (de))) ∧ True))))) ∧ True))))))) ∧ (((decide ((0 : Int) ≤ Int.ofNat y1) && decide (Int.ofNat y1 < (↑ntb : Int))) = (false)) → False))) ∧ (((decide (Int.ofNat y1 < Int.ofNat ntb)) = (false)) → ((Nat.ble ntb (8 : Nat) && !anyN (fun (i : Nat) => Nat.blt (5 : Nat) (FD.ln (ftb i (0 : Nat)))) ntb (0 : Nat)) = (true))))))))))) := by kernel_rfl
  refine hvc.mpr ?_
  clear hvc
  have hl := gtb.len
  have hl' : maxLen = 9223372036854775807 := rfl
  simp
  refine ⟨fun a b => by omega, fun hn x hx he => ⟨fun hlt => ⟨fun _ => ⟨fun ho _ => ?_, fun ho => ⟨x + 1, ⟨⟨by omega, ?_⟩, by omega⟩, ?_⟩⟩, hlt⟩, fun hge => ⟨by omega, ?_⟩⟩⟩
  · rw [← he, show ntb - x = ntb - (x + 1) + 1 by omega, anyN, show Nat.blt 5 (ftb x 0).ln = true from Nat.ble_eq_true_of_le (by omega)]
    simp
  · rw [← he, show ntb - x = ntb - (x + 1) + 1 by omega, anyN, show Nat.blt 5 (ftb x 0).ln = false by rw [Bool.eq_false_iff]; exact fun h' => by have := Nat.le_of_ble_eq_true h'; omega]
    simp
  · rw [wrap_id (by omega) (by omega)]
    rfl
  · rw [← he, show ntb - x = 0 by omega]
    rfl
def shortS : List PT := [.agg [.int .i64, .list [.int .i64], .list [.int .i64], .list [.int .i64]]]
def shortC : List FD → Bool
  | [.int _ _, .list _ _ _, .list _ _ _, .list _ _ _] => true
  | _ => false
def shortR : List FD → List FD
  | [.int _ _, .list _ nlo _, .list _ nhi _, .list _ nca _] => [.bool (decide (nlo ≤ 9) && (decide (nhi ≤ 9) && decide (nca ≤ 9)))]
  | _ => []
def shortI (_den : Int) (_nlo : Nat) (_flo : Nat → Nat → FD) (_nhi : Nat) (_fhi : Nat → Nat → FD) (_nca : Nat) (_fca : Nat → Nat → FD) : Nat → AFam := alts (fun _ => [])
theorem short_ok : FnOk (mkR smH gs4) Try.prog η0 59 (FI.of Try.f59 true) shortS (.one .bool) shortC shortR := by
  refine fnOk_of0 smH_ok gs4_ok Try.fok59 (fun fds => match fds with | [.int _ den, .list _ nlo flo, .list _ nhi fhi, .list _ nca fca] => shortI den nlo flo nhi fhi nca fca | _ => alts fun _ => []) ?_
  intro fds hf hc
  obtain ⟨den, ds0, rfl, hf1⟩ := hf.int
  obtain ⟨nlo, flo, ds1, rfl, glo, hf2⟩ := hf1.list
  obtain ⟨nhi, fhi, ds2, rfl, ghi, hf3⟩ := hf2.list
  obtain ⟨nca, fca, ds3, rfl, gca, hf4⟩ := hf3.list
  obtain rfl := hf4.nil
  have hc : (true) = true := hc
  have hvc : (vcF smH gs4 (FI.of Try.f59 true) shortS (.one .bool) (shortI den nlo flo nhi fhi nca fca) noR [.int .i64 den, .list [.int .i64] nlo flo, .list [.int .i64] nhi fhi, .list [.int .i64] nca fca] (shortR [.int .i64 den, .list [.int .i64] nlo flo, .list [.int .i64] nhi fhi, .list [.int .i64] nca fca])) =
    ((true = true) ∧ ((((decide ((9 : Int) < Int.ofNat nlo)) = (true)) → ((decide (nlo ≤ (9 : Nat)) && (decide (nhi ≤ (9 : Nat)) && decide (nca ≤ (9 : Nat)))) = (false))) ∧ (((decide ((9 : Int) < Int.ofNat nlo)) = (false)) → ((((decide ((9 : Int) < Int.ofNat nhi)) = (true)) → ((decide (nlo ≤ (9 : Nat)) && (decide (nhi ≤ (9 : Nat)) && decide (nca ≤ (9 : Nat)))) = (false))) ∧ (((decide ((9 : Int) < Int.ofNat nhi)) = (false)) → ((decide (nlo ≤ (9 : Nat)) && (decide (nhi ≤ (9 : Nat)) && decide (nca ≤ (9 : Nat)))) = (!decide ((9 : Int) < Int.ofNat nca)))))))) := by kernel_rfl
  refine hvc.mpr ?_
  clear hvc
  simp
  refine ⟨fun a b c => by omega, fun a => ⟨fun b c d => by omega, fun b => ?_⟩⟩
  rw [decide_eq_true (show nlo ≤ 9 by omega), decide_eq_true (show nhi ≤ 9 by omega), Bool.true_and, Bool.true_and, ← decide_not]
  exact decide_eq_decide.2 (by omega)
def copyTaskS : List PT := [.agg [.list [.list [.int .i64]], .int .i64, .int .i64]]
def copyTaskC : List FD → Bool
  | [.list _ ntb ftb, .int _ _, .int _ _] => Nat.ble ntb 1000000 && natAll (fun i => Nat.ble (ftb i 0).ln 1000000) ntb
  | _ => false
def copyTaskR : List FD → List FD
  | [.list _ ntb ftb, .int _ nu, .int _ de] => [.list [.list [.int .i64]] ntb ftb, .int .i64 nu, .int .i64 de]
  | _ => []
def copyTaskI (_ntb : Nat) (_ftb : Nat → Nat → FD) (_nu : Int) (_de : Int) : Nat → AFam := alts (fun _ => [])
theorem copyTask_ok : FnOk (mkR smH gs4) Try.prog η0 36 (FI.of Try.f36 false) copyTaskS (.agg [.list [.list [.int .i64]], .int .i64, .int .i64]) copyTaskC copyTaskR := by
  refine fnOk_of0 smH_ok gs4_ok Try.fok36 (fun fds => match fds with | [.list _ ntb ftb, .int _ nu, .int _ de] => copyTaskI ntb ftb nu de | _ => alts fun _ => []) ?_
  intro fds hf hc
  obtain ⟨ntb, ftb, ds0, rfl, gtb, hf1⟩ := hf.list
  obtain ⟨nu, ds1, rfl, hf2⟩ := hf1.int
  obtain ⟨de, ds2, rfl, hf3⟩ := hf2.int
  obtain rfl := hf3.nil
  have hc : (Nat.ble ntb 1000000 && natAll (fun i => Nat.ble (ftb i 0).ln 1000000) ntb) = true := hc
  have hvc : (vcF smH gs4 (FI.of Try.f36 false) copyTaskS (.agg [.list [.list [.int .i64]], .int .i64, .int .i64]) (copyTaskI ntb ftb nu de) noR [.list [.list [.int .i64]] ntb ftb, .int .i64 nu, .int .i64 de] (copyTaskR [.list [.list [.int .i64]] ntb ftb, .int .i64 nu, .int .i64 de])) =
    ((true = true) ∧ ((((copyListsC [FD.list [Sh.list [Sh.int IntKind.i64]] ntb ftb]) = (true)) → (((1 : Nat) ≤ (1 : Nat) + (1 : Nat) + (1 : Nat) + ((0 : Nat) + (1 : Nat) + (1 : Nat)) ∧ ((([Sh.list [Sh.int IntKind.i64]]) = ([Sh.list [Sh.int IntKind.i64]])) ∧ (((ntb) = (ntb)) ∧ (∀ y0 : Nat, (y0 < ntb → (∀ y1 : Nat, (y1 < List.length [Sh.list [Sh.int IntKind.i64]] → ((ftb y0 y1) = (ftb y0 y1))))))))) ∧ ((((IntKind.i64) = (IntKind.i64)) ∧ ((nu) = (nu))) ∧ ((((IntKind.i64) = (IntKind.i64)) ∧ ((de) = (de))) ∧ True)))) ∧ (((copyListsC [FD.list [Sh.list [Sh.int IntKind.i64]] ntb ftb]) = (false)) → False))) := by kernel_rfl
  refine hvc.mpr ?_
  clear hvc
  simp
  exact hc
def copyWeightsS : List PT := [.agg [.int .i64, .list [.int .i64], .list [.int .i64], .list [.int .i64]]]
def copyWeightsC : List FD → Bool
  | [.int _ _, .list _ nlo _, .list _ nhi _, .list _ nca _] => Nat.ble nlo 1000000 && (Nat.ble nhi 1000000 && Nat.ble nca 1000000)
  | _ => false
def copyWeightsR : List FD → List FD
  | [.int _ den, .list _ nlo flo, .list _ nhi fhi, .list _ nca fca] => [.int .i64 den, .list [.int .i64] nlo flo, .list [.int .i64] nhi fhi, .list [.int .i64] nca fca]
  | _ => []
def copyWeightsI (_den : Int) (_nlo : Nat) (_flo : Nat → Nat → FD) (_nhi : Nat) (_fhi : Nat → Nat → FD) (_nca : Nat) (_fca : Nat → Nat → FD) : Nat → AFam := alts (fun _ => [])
theorem copyWeights_ok : FnOk (mkR smH gs4) Try.prog η0 62 (FI.of Try.f62 false) copyWeightsS (.agg [.int .i64, .list [.int .i64], .list [.int .i64], .list [.int .i64]]) copyWeightsC copyWeightsR := by
  refine fnOk_of0 smH_ok gs4_ok Try.fok62 (fun fds => match fds with | [.int _ den, .list _ nlo flo, .list _ nhi fhi, .list _ nca fca] => copyWeightsI den nlo flo nhi fhi nca fca | _ => alts fun _ => []) ?_
  intro fds hf hc
  obtain ⟨den, ds0, rfl, hf1⟩ := hf.int
  obtain ⟨nlo, flo, ds1, rfl, glo, hf2⟩ := hf1.list
  obtain ⟨nhi, fhi, ds2, rfl, ghi, hf3⟩ := hf2.list
  obtain ⟨nca, fca, ds3, rfl, gca, hf4⟩ := hf3.list
  obtain rfl := hf4.nil
  have hc : (Nat.ble nlo 1000000 && (Nat.ble nhi 1000000 && Nat.ble nca 1000000)) = true := hc
  have hvc : (vcF smH gs4 (FI.of Try.f62 false) copyWeightsS (.agg [.int .i64, .list [.int .i64], .list [.int .i64], .list [.int .i64]]) (copyWeightsI den nlo flo nhi fhi nca fca) noR [.int .i64 den, .list [.int .i64] nlo flo, .list [.int .i64] nhi fhi, .list [.int .i64] nca fca] (copyWeightsR [.int .i64 den, .list [.int .i64] nlo flo, .list [.int .i64] nhi fhi, .list [.int .i64] nca fca])) =
    ((true = true) ∧ ((((copyIntsC [FD.list [Sh.int IntKind.i64] nlo flo]) = (true)) → ((((copyIntsC [FD.list [Sh.int IntKind.i64] nhi fhi]) = (true)) → ((((copyIntsC [FD.list [Sh.int IntKind.i64] nca fca]) = (true)) → ((((IntKind.i64) = (IntKind.i64)) ∧ ((den) = (den))) ∧ (((1 : Nat) ≤ (1 : Nat) + (1 : Nat) + (1 : Nat) + ((0 : Nat) + (1 : Nat) + (1 : Nat) + (1 : Nat) + (1 : Nat)) ∧ ((([Sh.int IntKind.i64]) = ([Sh.int IntKind.i64])) ∧ (((nlo) = (nlo)) ∧ (∀ y0 : Nat, (y0 < nlo → (∀ y1 : Nat, (y1 < List.length [Sh.int IntKind.i64] → ((flo y0 y1) = (flo y0 y1))))))))) ∧ (((1 : Nat) ≤ (1 : Nat) + (1 : Nat) + (1 : Nat) + ((0 : Nat) + (1 : Nat) + (1 : Nat) + (1 : Nat) + (1 : Nat) + (1 : Nat) + (1 : Nat) + (1 : Nat)) ∧ ((([Sh.int IntKind.i64]) = ([Sh.int IntKind.i64])) ∧ (((nhi) = (nhi)) ∧ (∀ y0 : Nat, (y0 < nhi → (∀ y1 : Nat, (y1 < List.length [Sh.int IntKind.i64] → ((fhi y0 y1) = (fhi y0 y1))))))))) ∧ (((1 : Nat) ≤ (1 : Nat) + (1 : Nat) + (1 : Nat) + ((0 : Nat) + (1 : Nat) + (1 : Nat) + (1 : Nat) + (1 : Nat) + (1 : Nat) + (1 : Nat) + (1 : Nat) + (1 : Nat) + (1 : Nat) + (1 : Nat)) ∧ ((([Sh.int IntKind.i64]) = ([Sh.int IntKind.i64])) ∧ (((nca) = (nca)) ∧ (∀ y0 : Nat, (y0 < nca → (∀ y1 : Nat, (y1 < List.length [Sh.int IntKind.i64] → ((fca y0 y1) = (fca y0 y1))))))))) ∧ True))))) ∧ (((copyIntsC [FD.list [Sh.int IntKind.i64] nca fca]) = (false)) → False))) ∧ (((copyIntsC [FD.list [Sh.int IntKind.i64] nhi fhi]) = (false)) → False))) ∧ (((copyIntsC [FD.list [Sh.int IntKind.i64] nlo flo]) = (false)) → False))) := by kernel_rfl
  refine hvc.mpr ?_
  clear hvc
  simp only [Bool.and_eq_true] at hc
  have h1 : copyIntsC [FD.list [Sh.int IntKind.i64] nlo flo] = true := hc.1
  have h2 : copyIntsC [FD.list [Sh.int IntKind.i64] nhi fhi] = true := hc.2.1
  have h3 : copyIntsC [FD.list [Sh.int IntKind.i64] nca fca] = true := hc.2.2
  simp [h1, h2, h3]
end
end Go.Ex


namespace Go.Ex
open Go Go.Proofs Go.RowKit
noncomputable section
set_option maxRecDepth 1000000

def isum (g : Nat → Int) : Nat → Int
  | 0 => 0
  | n + 1 => isum g n + g n
theorem isum_congr {g h : Nat → Int} : ∀ {n : Nat}, (∀ j, j < n → g j = h j) → isum g n = isum h n
  | 0, _ => rfl
  | n + 1, e => by simp only [isum]; rw [isum_congr fun j hj => e j (by omega), e n (by omega)]
theorem isum_upd {g : Nat → Int} {c : Int} {k : Nat} : ∀ {n : Nat}, isum (fun j => if k = j then g j + c else g j) n = isum g n + (if k < n then c else 0)
  | 0 => by simp [isum]
  | n + 1 => by
    simp only [isum]
    rw [isum_upd (n := n)]
    by_cases e : k = n
    · subst e; simp; omega
    · rw [if_neg e]
      by_cases h : k < n
      · rw [if_pos h, if_pos (by omega)]; omega
      · rw [if_neg h, if_neg (by omega)]; omega
theorem isum_bd {g : Nat → Int} {M : Int} : ∀ {n : Nat}, (∀ j, j < n → 0 ≤ g j ∧ g j ≤ M) → 0 ≤ isum g n ∧ isum g n ≤ M * n
  | 0, _ => by simp [isum]
  | n + 1, h => by
    have ih := isum_bd (g := g) (M := M) (n := n) fun j hj => h j (by omega)
    have := h n (by omega)
    simp only [isum]
    have e : M * ((n + 1 : Nat) : Int) = M * n + M := by rw [show ((n + 1 : Nat) : Int) = (n : Int) + 1 from rfl, Int.mul_add, Int.mul_one]
    rw [e]
    omega
theorem isum_mono {g : Nat → Int} : ∀ {m n : Nat}, m ≤ n → (∀ j, j < n → 0 ≤ g j) → isum g m ≤ isum g n
  | m, 0, h, _ => by obtain rfl : m = 0 := by omega
                     exact Int.le_refl _
  | m, n + 1, h, hg => by
    by_cases e : m = n + 1
    · subst e; exact Int.le_refl _
    · have := isum_mono (g := g) (m := m) (n := n) (by omega) fun j hj => hg j (by omega)
      have := hg n (by omega)
      simp only [isum]
      omega
theorem isum_add {g : Nat → Int} (m : Nat) : ∀ n, isum g (m + n) = isum g m + isum (fun t => g (m + t)) n
  | 0 => by simp [isum]
  | n + 1 => by
    show isum g (m + n) + g (m + n) = _
    rw [isum_add m n]
    simp only [isum]
    omega
theorem bif_app {α : Type} {f : Nat → α} {n y : Nat} {d : α} (hy : y < n + 1) (hd : f n = d) : f y = bif Nat.blt y n then f y else d := by
  by_cases e : y = n
  · subst e
    rw [show Nat.blt y y = false by rw [Bool.eq_false_iff]; exact fun h => by have := Nat.le_of_ble_eq_true h; omega]
    exact hd
  · rw [show Nat.blt y n = true from Nat.ble_eq_true_of_le (by omega)]
    rfl
end
end Go.Ex

