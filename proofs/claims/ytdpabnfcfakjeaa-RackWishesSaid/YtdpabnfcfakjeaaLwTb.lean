/-
  Contracts: lists are equal; the thicknesses of all parts; blades.
-/
/-
  Sums; rows that grow.
-/
/-
  Contracts: the thicknesses of all parts.
-/
/-
  Contracts: the document's places and table.
-/
import Derived.Test.YtdpabnfcfakjeaaLwCk

namespace Go.Ex
open Go Go.Proofs Go.RowKit
noncomputable section
set_option maxRecDepth 1000000

def intsB (na : Nat) (fa : Nat → Nat → FD) (nb : Nat) (fb : Nat → Nat → FD) : Bool := Nat.beq na nb && natAll (fun i => decide ((fa i 0).i = (fb i 0).i)) na
def listsB (na : Nat) (fa : Nat → Nat → FD) (nb : Nat) (fb : Nat → Nat → FD) : Bool := Nat.beq na nb && natAll (fun i => intsB (fa i 0).ln (fa i 0).fn (fb i 0).ln (fb i 0).fn) na
theorem natAll_false {p : Nat → Bool} : ∀ {m i : Nat}, i < m → p i = false → natAll p m = false
  | m + 1, i, h, hp => by
    show (p m && natAll p m) = false
    by_cases e : i = m
    · subst e; rw [hp]; rfl
    · rw [natAll_false (show i < m by omega) hp, Bool.and_false]
theorem natAll_step {p : Nat → Bool} {m : Nat} (h : natAll p m = true) (hp : p m = true) : natAll p (m + 1) = true := by
  show (p m && natAll p m) = true
  rw [h, hp]; rfl
def IntsS : List PT := [.one (.list [.int .i64]), .one (.list [.int .i64])]
def IntsC : List FD → Bool
  | [.list _ _ _, .list _ _ _] => true
  | _ => false
def IntsR : List FD → List FD
  | [.list _ na fa, .list _ nb fb] => [.bool (intsB na fa nb fb)]
  | _ => []
def IntsI (na : Nat) (fa : Nat → Nat → FD) (nb : Nat) (fb : Nat → Nat → FD) : Nat → AFam := fun i => match i with | 4 => ⟨Nat, fun _ => [{ι := Nat, G := fun x => x ≤ na ∧ natAll (fun i => decide ((fa i 0).i = (fb i 0).i)) x = true, μ := fun x => na - x, tl := fun x => [(0, .one (.fz (.root 0 0) (FD.list [Sh.int IntKind.i64] na fa))), (1, .one (.fz (.root 0 1) (FD.list [Sh.int IntKind.i64] nb fb))), (5, .one (.int IntKind.i64 (.tm (Int.ofNat x))))], bl := fun _ => [], nx := (1 : Nat)}]⟩ | _ => ⟨Nat, fun _ => []⟩
theorem Ints_ok : FnOk (mkR smH gs4) Try.prog η0 56 (FI.of Try.f56 true) IntsS (.one .bool) IntsC IntsR := by
  refine fnOk_of0 smH_ok gs4_ok Try.fok56 (fun fds => match fds with | [.list _ na fa, .list _ nb fb] => IntsI na fa nb fb | _ => alts fun _ => []) ?_
  intro fds hf hc
  obtain ⟨na, fa, ds0, rfl, ga, hf1⟩ := hf.list
  obtain ⟨nb, fb, ds1, rfl, gb, hf2⟩ := hf1.list
  obtain rfl := hf2.nil
  have hc : (true) = true := hc
  have hvc : (vcF smH gs4 (FI.of Try.f56 true) IntsS (.one .bool) (IntsI na fa nb fb) noR [.list [.int .i64] na fa, .list [.int .i64] nb fb] (IntsR [.list [.int .i64] na fa, .list [.int .i64] nb fb])) =
    ((true = true) ∧ ((((decide (Int.ofNat na = Int.ofNat nb)) = (false)) → ((intsB na fa nb fb) = (false))) ∧ (((decide (Int.ofNat na = Int.ofNat nb)) = (true)) → (∃ y0 : Nat, ((∃ y1 : Nat, (((y1 ≤ na ∧ ((natAll (fun (i : Nat) => decide (FD.i (fa i (0 : Nat)) = FD.i (fb i (0 : Nat)))) y1) = (true))) ∧ True) ∧ (((true = true) ∧ ((((Ref.root (0) (0)) = (Ref.root (0) (0))) ∧ (((FD.list [Sh.int IntKind.i64] na fa) = (FD.list [Sh.int IntKind.i64] na fa)) ∧ (true = true))) ∧ ((((Ref.root (0) (1)) = (Ref.root (0) (1))) ∧ (((FD.list [Sh.int IntKind.i64] nb fb) = (FD.list [Sh.int IntKind.i64] nb fb)) ∧ (true = true))) ∧ ((((IntKind.i64) = (IntKind.i64)) ∧ ((Int.ofNat y1) = ((0 : Int)))) ∧ True)))) ∧ True))) ∧ (∀ y1 : Nat, ((y1 ≤ na ∧ ((natAll (fun (i : Nat) => decide (FD.i (fa i (0 : Nat)) = FD.i (fb i (0 : Nat)))) y1) = (true))) → ((((decide (Int.ofNat y1 < Int.ofNat na)) = (true)) → ((((decide ((0 : Int) ≤ Int.ofNat y1) && decide (Int.ofNat y1 < (↑na : Int))) = (true)) → ((((decide ((0 : Int) ≤ Int.ofNat y1) && decide (Int.ofNat y1 < (↑nb : Int))) = (true)) → ((((decide (FD.i (fa (Int.toNat (Int.ofNat y1)) (0 : Nat)) = FD.i (fb (Int.toNat (Int.ofNat y1)) (0 : Nat)))) = (false)) → ((intsB na fa nb fb) = (false))) ∧ (((decide (FD.i (fa (Int.toNat (Int.ofNat y1)) (0 : Nat)) = FD.i (fb (Int.toNat (Int.ofNat y1)) (0 : Nat)))) = (true)) → (∃ y2 : Nat, (((y2 ≤ na ∧ ((natAll (fun (i : Nat) => decide (FD.i (fa i (0 : Nat)) = FD.i (fb i (0 : Nat)))) y2) = (true))) ∧ na - y2 < na - y1) ∧ (((true = true) ∧ ((((Ref.root (0) (0)) = (Ref.root (0) (0))) ∧ (((FD.list [Sh.int IntKind.i64] na fa) = (FD.list [Sh.int IntKind.i64] na fa)) ∧ (true = true))) ∧ ((((Ref.root (0) (1)) = (Ref.root (0) (1))) ∧ (((FD.list [Sh.int IntKind.i64] nb fb) = (FD.list [Sh.int IntKind.i64] nb fb)) ∧ (true = true))) ∧ ((((IntKind.i64) = (IntKind.i64)) ∧ ((Int.ofNat y2) = (IntKind.wrap IntKind.i64 (Int.ofNat y1 + (1 : Int))))) ∧ True)))) ∧ True)))))) ∧ (((decide ((0 : Int) ≤ Int.ofNat y1) && decide (Int.ofNat y1 < (↑nb : Int))) = (false)) → False))) ∧ (((decide ((0 : Int) ≤ Int.ofNat y1) && decide (Int.ofNat y1 < (↑na : Int))) = (false)) → False))) ∧ (((decide (Int.ofNat y1 < Int.ofNat na)) = (false)) → ((intsB na fa nb fb) = (true))))))))))) := by kernel_rfl
  refine hvc.mpr ?_
  clear hvc
  have hl := ga.len
  have hl' : maxLen = 9223372036854775807 := rfl
  simp
  refine ⟨fun h => ?_, fun h => ⟨rfl, fun x hx he => ⟨fun hlt => ⟨fun _ => ⟨fun _ => ⟨fun hne => ?_, fun heq => ⟨x + 1, ⟨⟨by omega, natAll_step he (by simp [heq])⟩, by omega⟩, ?_⟩⟩, by omega⟩, hlt⟩, fun hge => ?_⟩⟩⟩
  · rw [intsB, show Nat.beq na nb = false by rw [Bool.eq_false_iff]; exact fun h' => by have := Nat.eq_of_beq_eq_true h'; omega]
    rfl
  · rw [intsB, natAll_false hlt (by simp [hne]), Bool.and_false]
  · rw [wrap_id (by omega) (by omega)]
    rfl
  · obtain rfl : x = na := by omega
    obtain rfl : x = nb := by omega
    rw [intsB, he, Nat.beq_refl]
    rfl
def ModS : List PT := [.one (.int .i64), .one (.int .i64)]
def ModC : List FD → Bool
  | [.int _ _, .int _ b] => !decide (b = 0)
  | _ => false
def ModR : List FD → List FD
  | [.int _ a, .int _ b] => [.int .i64 (if a.tmod b < 0 then IntKind.i64.wrap (a.tmod b + b) else a.tmod b)]
  | _ => []
def ModI (_a : Int) (_b : Int) : Nat → AFam := alts (fun _ => [])
theorem Mod_ok : FnOk (mkR smH gs4) Try.prog η0 116 (FI.of Try.f116 true) ModS (.one (.int .i64)) ModC ModR := by
  refine fnOk_of0 smH_ok gs4_ok Try.fok116 (fun fds => match fds with | [.int _ a, .int _ b] => ModI a b | _ => alts fun _ => []) ?_
  intro fds hf hc
  obtain ⟨a, ds0, rfl, hf1⟩ := hf.int
  obtain ⟨b, ds1, rfl, hf2⟩ := hf1.int
  obtain rfl := hf2.nil
  have hc : (!decide (b = 0)) = true := hc
  have hvc : (vcF smH gs4 (FI.of Try.f116 true) ModS (.one (.int .i64)) (ModI a b) noR [.int .i64 a, .int .i64 b] (ModR [.int .i64 a, .int .i64 b])) =
    ((true = true) ∧ ((((!decide (b = (0 : Int))) = (true)) → ((((decide (Int.tmod a b < (0 : Int))) = (true)) → (((IntKind.i64) = (IntKind.i64)) ∧ ((if Int.tmod a b < (0 : Int) then IntKind.wrap IntKind.i64 (Int.tmod a b + b) else Int.tmod a b) = (IntKind.wrap IntKind.i64 (Int.tmod a b + b))))) ∧ (((decide (Int.tmod a b < (0 : Int))) = (false)) → (((IntKind.i64) = (IntKind.i64)) ∧ ((if Int.tmod a b < (0 : Int) then IntKind.wrap IntKind.i64 (Int.tmod a b + b) else Int.tmod a b) = (Int.tmod a b)))))) ∧ (((!decide (b = (0 : Int))) = (false)) → False))) := by kernel_rfl
  refine hvc.mpr ?_
  clear hvc
  simp only [Bool.not_eq_true', decide_eq_false_iff_not] at hc
  simp [hc]
  exact ⟨fun h1 h2 => by omega, fun h1 h2 => by omega⟩
def bladesErrS : List PT := [.agg [.int .i64, .int .i64, .int .i64, .int .i64], .one (.list [.int .i64])]
def bladesErrC : List FD → Bool
  | [.int _ _, .int _ _, .int _ _, .int _ _, .list _ _ _] => true
  | _ => false
def bladesErrR : List FD → List FD
  | [.int _ st, .int _ _, .int _ _, .int _ _, .list _ nb fb] => [.int .i64 (if (nb : Int) = st then (if anyN (fun i => outB 2 (fb i 0).i) nb 0 = true then 2 else 0) else 12)]
  | _ => []
def bladesErrI (st : Int) (pl : Int) (ho : Int) (ge : Int) (nb : Nat) (fb : Nat → Nat → FD) : Nat → AFam := fun i => match i with | 4 => ⟨Nat, fun _ => [{ι := Nat, G := fun x => x ≤ nb ∧ (∀ i, i < x → 0 ≤ (fb i 0).i ∧ (fb i 0).i ≤ 2), μ := fun x => nb - x, tl := fun x => [(0, .agg [.int IntKind.i64 (.tm st), .int IntKind.i64 (.tm pl), .int IntKind.i64 (.tm ho), .int IntKind.i64 (.tm ge)]), (1, .one (.fz (.root 0 4) (FD.list [Sh.int IntKind.i64] nb fb))), (2, .one (.ptr (some (1, 0)))), (5, .one (.int IntKind.i64 (.tm (Int.ofNat x))))], bl := fun x => [(1, .cells 47 4 [.int IntKind.i64 (.tm st), .int IntKind.i64 (.tm pl), .int IntKind.i64 (.tm ho), .int IntKind.i64 (.tm ge)])], nx := (1 : Nat) + (1 : Nat)}]⟩ | _ => ⟨Nat, fun _ => []⟩
theorem bladesErr_ok : FnOk (mkR smH gs4) Try.prog η0 31 (FI.of Try.f31 true) bladesErrS (.one (.int .i64)) bladesErrC bladesErrR := by
  refine fnOk_of0 smH_ok gs4_ok Try.fok31 (fun fds => match fds with | [.int _ st, .int _ pl, .int _ ho, .int _ ge, .list _ nb fb] => bladesErrI st pl ho ge nb fb | _ => alts fun _ => []) ?_
  intro fds hf hc
  obtain ⟨st, ds0, rfl, hf1⟩ := hf.int
  obtain ⟨pl, ds1, rfl, hf2⟩ := hf1.int
  obtain ⟨ho, ds2, rfl, hf3⟩ := hf2.int
  obtain ⟨ge, ds3, rfl, hf4⟩ := hf3.int
  obtain ⟨nb, fb, ds4, rfl, gb, hf5⟩ := hf4.list
  obtain rfl := hf5.nil
  have hc : (true) = true := hc
  have hvc : (vcF smH gs4 (FI.of Try.f31 true) bladesErrS (.one (.int .i64)) (bladesErrI st pl ho ge nb fb) noR [.int .i64 st, .int .i64 pl, .int .i64 ho, .int .i64 ge, .list [.int .i64] nb fb] (bladesErrR [.int .i64 st, .int .i64 pl, .int .i64 ho, .int .i64 ge, .list [.int .i64] nb fb])) =
    ((true = true) ∧ ((((decide (Int.ofNat nb = st)) = (false)) → (((IntKind.i64) = (IntKind.i64)) ∧ ((if (↑nb : Int) = st then if anyN (fun (i : Nat) => outB (2 : Int) (FD.i (fb i (0 : Nat)))) nb (0 : Nat) = true then (2 : Int) else (0 : Int) else (12 : Int)) = ((12 : Int))))) ∧ (((decide (Int.ofNat nb = st)) = (true)) → (∃ y0 : Nat, ((∃ y1 : Nat, (((y1 ≤ nb ∧ (∀ y2 : Nat, (y2 < y1 → ((0 : Int) ≤ FD.i (fb y2 (0 : Nat)) ∧ FD.i (fb y2 (0 : Nat)) ≤ (2 : Int))))) ∧ True) ∧ (((true = true) ∧ (((((IntKind.i64) = (IntKind.i64)) ∧ ((st) = (st))) ∧ ((((IntKind.i64) = (IntKind.i64)) ∧ ((pl) = (pl))) ∧ ((((IntKind.i64) = (IntKind.i64)) ∧ ((ho) = (ho))) ∧ ((((IntKind.i64) = (IntKind.i64)) ∧ ((ge) = (ge))) ∧ True)))) ∧ ((((Ref.root (0) (4)) = (Ref.root (0) (4))) ∧ (((FD.list [Sh.int IntKind.i64] nb fb) = (FD.list [Sh.int IntKind.i64] nb fb)) ∧ (true = true))) ∧ ((((1, 1) ∈ ([(1, 1)] : List (Nat × Nat))) ∧ ((Prod.snd ((1 : Nat), (0 : Nat))) = (Prod.snd ((1 : Nat), (0 : Nat))))) ∧ ((((IntKind.i64) = (IntKind.i64)) ∧ ((Int.ofNat y1) = ((0 : Int)))) ∧ True))))) ∧ (((((47 : TypeId)) = ((47 : Nat))) ∧ ((((4 : Nat)) = (List.length [Sc.int IntKind.i64 (Ix.tm st), Sc.int IntKind.i64 (Ix.tm pl), Sc.int IntKind.i64 (Ix.tm ho), Sc.int IntKind.i64 (Ix.tm ge)])) ∧ ((((IntKind.i64) = (IntKind.i64)) ∧ ((st) = (st))) ∧ ((((IntKind.i64) = (IntKind.i64)) ∧ ((pl) = (pl))) ∧ ((((IntKind.i64) = (IntKind.i64)) ∧ ((ho) = (ho))) ∧ ((((IntKind.i64) = (IntKind.i64)) ∧ ((ge) = (ge))) ∧ True)))))) ∧ True)))) ∧ (∀ y1 : Nat, ((y1 ≤ nb ∧ (∀ y2 : Nat, (y2 < y1 → ((0 : Int) ≤ FD.i (fb y2 (0 : Nat)) ∧ FD.i (fb y2 (0 : Nat)) ≤ (2 : Int))))) → ((((decide (Int.ofNat y1 < Int.ofNat nb)) = (true)) → ((((decide ((0 : Int) ≤ Int.ofNat y1) && decide (Int.ofNat y1 < (↑nb : Int))) = (true)) → (((true = true) → ((((decide ((0 : Int) ≤ FD.i (fb (Int.toNat (Int.ofNat y1)) (0 : Nat))) && decide (FD.i (fb (Int.toNat (Int.ofNat y1)) (0 : Nat)) ≤ (2 : Int))) = (false)) → (((IntKind.i64) = (IntKind.i64)) ∧ ((if (↑nb : Int) = st then if anyN (fun (i : Nat) => outB (2 : Int) (FD.i (fb i (0 : Nat)))) nb (0 : Nat) = true then (2 : Int) else (0 : Int) else (12 : Int)) = ((2 : Int))))) ∧ (((decide ((0 : Int) ≤ FD.i (fb (Int.toNat (Int.ofNat y1)) (0 : Nat))) && decide (FD.i (fb (Int.toNat (Int.ofNat y1)) (0 : Nat)) ≤ (2 : Int))) = (true)) → (∃ y2 : Nat, (((y2 ≤ nb ∧ (∀ y3 : Nat, (y3 < y2 → ((0 : Int) ≤ FD.i (fb y3 (0 : Nat)) ∧ FD.i (fb y3 (0 : Nat)) ≤ (2 : Int))))) ∧ nb - y2 < nb - y1) ∧ (((true = true) ∧ (((((IntKind.i64) = (IntKind.i64)) ∧ ((st) = (st))) ∧ ((((IntKind.i64) = (IntKind.i64)) ∧ ((pl) = (pl))) ∧ ((((IntKind.i64) = (IntKind.i64)) ∧ ((ho) = (ho))) ∧ ((((IntKind.i64) = (IntKind.i64)) ∧ ((ge) = (ge))) ∧ True)))) ∧ ((((Ref.root (0) (4)) = (Ref.root (0) (4))) ∧ (((FD.list [Sh.int IntKind.i64] nb fb) = (FD.list [Sh.int IntKind.i64] nb fb)) ∧ (true = true))) ∧ ((((1, 1) ∈ ([(1, 1)] : List (Nat × Nat))) ∧ ((Prod.snd ((1 : Nat), (0 : Nat))) = (Prod.snd ((1 : Nat), (0 : Nat))))) ∧ ((((IntKind.i64) = (IntKind.i64)) ∧ ((Int.ofNat y2) = (IntKind.wrap IntKind.i64 (Int.ofNat y1 + (1 : Int))))) ∧ True))))) ∧ (((((47 : TypeId)) = ((47 : TypeId))) ∧ ((((4 : Nat)) = ((4 : Nat))) ∧ ((((IntKind.i64) = (IntKind.i64)) ∧ ((st) = (st))) ∧ ((((IntKind.i64) = (IntKind.i64)) ∧ ((pl) = (pl))) ∧ ((((IntKind.i64) = (IntKind.i64)) ∧ ((ho) = (ho))) ∧ ((((IntKind.i64) = (IntKind.i64)) ∧ ((ge) = (ge))) ∧ True)))))) ∧ True))))))) ∧ ((true = false) → False))) ∧ (((decide ((0 : Int) ≤ Int.ofNat y1) && decide (Int.ofNat y1 < (↑nb : Int))) = (false)) → False))) ∧ (((decide (Int.ofNat y1 < Int.ofNat nb)) = (false)) → (((IntKind.i64) = (IntKind.i64)) ∧ ((if (↑nb : Int) = st then if anyN (fun (i : Nat) => outB (2 : Int) (FD.i (fb i (0 : Nat)))) nb (0 : Nat) = true then (2 : Int) else (0 : Int) else (12 : Int)) = ((0 : Int))))))))))))) := by kernel_rfl
  refine hvc.mpr ?_
  clear hvc
  have hl := gb.len
  have hl' : maxLen = 9223372036854775807 := rfl
  simp
  refine ⟨fun h g => absurd g h, fun h x hx hin => ⟨fun hlt => ⟨fun _ => ⟨fun ho => ?_, fun a b => ⟨x + 1, ⟨⟨by omega, fun y hy => ?_⟩, by omega⟩, ?_⟩⟩, hlt⟩, fun hge => ?_⟩⟩
  · rw [if_pos h, if_pos (anyN_out hlt (by omega))]
  · by_cases e : y = x
    · subst e; exact ⟨a, b⟩
    · exact hin y (by omega)
  · rw [wrap_id (by omega) (by omega)]
    rfl
  · rw [if_pos h, anyN_in (fun i hi => hin i (by omega))]
    rfl
end
end Go.Ex


namespace Go.Ex
open Go Go.Proofs Go.RowKit
noncomputable section
set_option maxRecDepth 1000000

def isum (g : Nat → Int) : Nat → Int
  | 0 => 0
  | n + 1 => isum g n + g n
theorem isum_congr {g h : Nat → Int} : ∀ {n : Nat}, (∀ j, j < n → g j = h j) → isum g n = isum h n
  | 0, _ => rfl
  | n + 1, e => by simp only [isum]; rw [isum_congr fun j hj => e j (by omega), e n (by omega)]
theorem isum_bd {g : Nat → Int} {M : Int} : ∀ {n : Nat}, (∀ j, j < n → 0 ≤ g j ∧ g j ≤ M) → 0 ≤ isum g n ∧ isum g n ≤ M * n
  | 0, _ => by simp [isum]
  | n + 1, h => by
    have ih := isum_bd (g := g) (M := M) (n := n) fun j hj => h j (by omega)
    have := h n (by omega)
    simp only [isum]
    have e : M * ((n + 1 : Nat) : Int) = M * n + M := by rw [show ((n + 1 : Nat) : Int) = (n : Int) + 1 from rfl, Int.mul_add, Int.mul_one]
    rw [e]
    omega
theorem isum_add {g : Nat → Int} (m : Nat) : ∀ n, isum g (m + n) = isum g m + isum (fun t => g (m + t)) n
  | 0 => by simp [isum]
  | n + 1 => by
    show isum g (m + n) + g (m + n) = _
    rw [isum_add m n]
    simp only [isum]
    omega
theorem bif_app {α : Type} {f : Nat → α} {n y : Nat} {d : α} (hy : y < n + 1) (hd : f n = d) : f y = bif Nat.blt y n then f y else d := by
  by_cases e : y = n
  · subst e
    rw [show Nat.blt y y = false by rw [Bool.eq_false_iff]; exact fun h => by have := Nat.le_of_ble_eq_true h; omega]
    exact hd
  · rw [show Nat.blt y n = true from Nat.ble_eq_true_of_le (by omega)]
    rfl
end
end Go.Ex


namespace Go.Ex
open Go Go.Proofs Go.RowKit
noncomputable section
set_option maxRecDepth 1000000

def smI : T Smf := (T.set (T.set (T.set smH 56 (some (gFd IntsS (.one .bool) IntsC IntsR))) 116 (some (gFd ModS (.one (.int .i64)) ModC ModR))) 31 (some (gFd bladesErrS (.one (.int .i64)) bladesErrC bladesErrR)))
theorem smI_ok : Tab SmOk smI := (Tab.set (Tab.set (Tab.set smH_ok (by kernel_rfl) (smOk_of smH_ok gs4_ok Ints_ok rfl)) (by kernel_rfl) (smOk_of smH_ok gs4_ok Mod_ok rfl)) (by kernel_rfl) (smOk_of smH_ok gs4_ok bladesErr_ok rfl))
def ListsS : List PT := [.one (.list [.list [.int .i64]]), .one (.list [.list [.int .i64]])]
def ListsC : List FD → Bool
  | [.list _ _ _, .list _ _ _] => true
  | _ => false
def ListsR : List FD → List FD
  | [.list _ na fa, .list _ nb fb] => [.bool (listsB na fa nb fb)]
  | _ => []
def ListsI (na : Nat) (fa : Nat → Nat → FD) (nb : Nat) (fb : Nat → Nat → FD) : Nat → AFam := fun i => match i with | 4 => ⟨Nat, fun _ => [{ι := Nat, G := fun x => x ≤ na ∧ natAll (fun i => intsB (fa i 0).ln (fa i 0).fn (fb i 0).ln (fb i 0).fn) x = true, μ := fun x => na - x, tl := fun x => [(0, .one (.fz (.root 0 0) (FD.list [Sh.list [Sh.int IntKind.i64]] na fa))), (1, .one (.fz (.root 0 1) (FD.list [Sh.list [Sh.int IntKind.i64]] nb fb))), (5, .one (.int IntKind.i64 (.tm (Int.ofNat x))))], bl := fun _ => [], nx := (1 : Nat)}]⟩ | _ => ⟨Nat, fun _ => []⟩
theorem Lists_ok : FnOk (mkR smI gs4) Try.prog η0 50 (FI.of Try.f50 true) ListsS (.one .bool) ListsC ListsR := by
  refine fnOk_of0 smI_ok gs4_ok Try.fok50 (fun fds => match fds with | [.list _ na fa, .list _ nb fb] => ListsI na fa nb fb | _ => alts fun _ => []) ?_
  intro fds hf hc
  obtain ⟨na, fa, ds0, rfl, ga, hf1⟩ := hf.list
  obtain ⟨nb, fb, ds1, rfl, gb, hf2⟩ := hf1.list
  obtain rfl := hf2.nil
  have hc : (true) = true := hc
  have hvc : (vcF smI gs4 (FI.of Try.f50 true) ListsS (.one .bool) (ListsI na fa nb fb) noR [.list [.list [.int .i64]] na fa, .list [.list [.int .i64]] nb fb] (ListsR [.list [.list [.int .i64]] na fa, .list [.list [.int .i64]] nb fb])) =
    ((true = true) ∧ ((((decide (Int.ofNat na = Int.ofNat nb)) = (false)) → ((listsB na fa nb fb) = (false))) ∧ (((decide (Int.ofNat na = Int.ofNat nb)) = (true)) → (∃ y0 : Nat, ((∃ y1 : Nat, (((y1 ≤ na ∧ ((natAll (fun (i : Nat) => intsB (FD.ln (fa i (0 : Nat))) (FD.fn (fa i (0 : Nat))) (FD.ln (fb i (0 : Nat))) (FD.fn (fb i (0 : Nat)))) y1) = (true))) ∧ True) ∧ (((true = true) ∧ ((((Ref.root (0) (0)) = (Ref.root (0) (0))) ∧ (((FD.list [Sh.list [Sh.int IntKind.i64]] na fa) = (FD.list [Sh.list [Sh.int IntKind.i64]] na fa)) ∧ (true = true))) ∧ ((((Ref.root (0) (1)) = (Ref.root (0) (1))) ∧ (((FD.list [Sh.list [Sh.int IntKind.i64]] nb fb) = (FD.list [Sh.list [Sh.int IntKind.i64]] nb fb)) ∧ (true = true))) ∧ ((((IntKind.i64) = (IntKind.i64)) ∧ ((Int.ofNat y1) = ((0 : Int)))) ∧ True)))) ∧ True))) ∧ (∀ y1 : Nat, ((y1 ≤ na ∧ ((natAll (fun (i : Nat) => intsB (FD.ln (fa i (0 : Nat))) (FD.fn (fa i (0 : Nat))) (FD.ln (fb i (0 : Nat))) (FD.fn (fb i (0 : Nat)))) y1) = (true))) → ((((decide (Int.ofNat y1 < Int.ofNat na)) = (true)) → ((((decide ((0 : Int) ≤ Int.ofNat y1) && decide (Int.ofNat y1 < (↑na : Int))) = (true)) → ((((decide ((0 : Int) ≤ Int.ofNat y1) && decide (Int.ofNat y1 < (↑nb : Int))) = (true)) → (((true = true) → ((((intsB (FD.ln (fa (Int.toNat (Int.ofNat y1)) (0 : Nat))) (FD.fn (fa (Int.toNat (Int.ofNat y1)) (0 : Nat))) (FD.ln (fb (Int.toNat (Int.ofNat y1)) (0 : Nat))) (FD.fn (fb (Int.toNat (Int.ofNat y1)) (0 : Nat)))) = (false)) → ((listsB na fa nb fb) = (false))) ∧ (((intsB (FD.ln (fa (Int.toNat (Int.ofNat y1)) (0 : Nat))) (FD.fn (fa (Int.toNat (Int.ofNat y1)) (0 : Nat))) (FD.ln (fb (Int.toNat (Int.ofNat y1)) (0 : Nat))) (FD.fn (fb (Int.toNat (Int.ofNat y1)) (0 : Nat)))) = (true)) → (∃ y2 : Nat, (((y2 ≤ na ∧ ((natAll (fun (i : Nat) => intsB (FD.ln (fa i (0 : Nat))) (FD.fn (fa i (0 : Nat))) (FD.ln (fb i (0 : Nat))) (FD.fn (fb i (0 : Nat)))) y2) = (true))) ∧ na - y2 < na - y1) ∧ (((true = true) ∧ ((((Ref.root (0) (0)) = (Ref.root (0) (0))) ∧ (((FD.list [Sh.list [Sh.int IntKind.i64]] na fa) = (FD.list [Sh.list [Sh.int IntKind.i64]] na fa)) ∧ (true = true))) ∧ ((((Ref.root (0) (1)) = (Ref.root (0) (1))) ∧ (((FD.list [Sh.list [Sh.int IntKind.i64]] nb fb) = (FD.list [Sh.list [Sh.int IntKind.i64]] nb fb)) ∧ (true = true))) ∧ ((((IntKind.i64) = (IntKind.i64)) ∧ ((Int.ofNat y2) = (IntKind.wrap IntKind.i64 (Int.ofNat y1 + (1 : Int))))) ∧ True)))) ∧ True)))))) ∧ ((true = false) → False))) ∧ (((decide ((0 : Int) ≤ Int.ofNat y1) && decide (Int.ofNat y1 < (↑nb : Int))) = (false)) → False))) ∧ (((decide ((0 : Int) ≤ Int.ofNat y1) && decide (Int.ofNat y1 < (↑na : Int))) = (false)) → False))) ∧ (((decide (Int.ofNat y1 < Int.ofNat na)) = (false)) → ((listsB na fa nb fb) = (true))))))))))) := by kernel_rfl
  refine hvc.mpr ?_
  clear hvc
  have hl := ga.len
  have hl' : maxLen = 9223372036854775807 := rfl
  simp
  refine ⟨fun h => ?_, fun h => ⟨rfl, fun x hx he => ⟨fun hlt => ⟨fun _ => ⟨fun _ => ⟨fun hne => ?_, fun heq => ⟨x + 1, ⟨⟨by omega, natAll_step he heq⟩, by omega⟩, ?_⟩⟩, by omega⟩, hlt⟩, fun hge => ?_⟩⟩⟩
  · rw [listsB, show Nat.beq na nb = false by rw [Bool.eq_false_iff]; exact fun h' => by have := Nat.eq_of_beq_eq_true h'; omega]
    rfl
  · rw [listsB, natAll_false hlt hne, Bool.and_false]
  · rw [wrap_id (by omega) (by omega)]
    rfl
  · obtain rfl : x = na := by omega
    obtain rfl : x = nb := by omega
    rw [listsB, he, Nat.beq_refl]
    rfl
def allE (st pl ho ge : Int) (n : Nat) (f : Nat → Nat → FD) (s : Int) : Int := if flowE st pl ho ge n f = 0 then stepsE s else flowE st pl ho ge n f
def thickRow (st pl ho ge : Int) (f : Nat → Nat → FD) (s : Int) (z : Nat) : FD := .list [.int .i64] ho.toNat (fun k _ => .int .i64 (thickV st pl ho ge z k f s))
def allThickS : List PT := [.agg [.int .i64, .int .i64, .int .i64, .int .i64], .one (.list [.list [.int .i64]]), .one (.int .i64)]
def allThickC : List FD → Bool
  | [.int _ _, .int _ _, .int _ _, .int _ _, .list _ _ _, .int _ _] => true
  | _ => false
def allThickR : List FD → List FD
  | [.int _ st, .int _ pl, .int _ ho, .int _ ge, .list _ nfl ffl, .int _ n] => [.list [.list [.int .i64]] (if allE st pl ho ge nfl ffl n = 0 then pl.toNat else 0) (fun z _ => thickRow st pl ho ge ffl n z), .int .i64 (allE st pl ho ge nfl ffl n)]
  | _ => []
def allThickI (st : Int) (pl : Int) (ho : Int) (ge : Int) (nfl : Nat) (ffl : Nat → Nat → FD) (n : Int) : Nat → AFam := fun i => match i with | 6 => ⟨Nat, fun z => [{ι := Nat, G := fun x => x = 0, μ := fun x => pl.toNat - x, tl := fun x => [(0, .agg [.int IntKind.i64 (.tm st), .int IntKind.i64 (.tm pl), .int IntKind.i64 (.tm ho), .int IntKind.i64 (.tm ge)]), (1, .one (.fz (.root 0 4) (FD.list [Sh.list [Sh.int IntKind.i64]] nfl ffl))), (2, .one (.int IntKind.i64 (.tm n))), (3, .one (.ptr (some (1, 0)))), (9, .one (.slice none 0 (.known 0))), (24, .one (.int IntKind.i64 (.tm pl))), (25, .one (.int IntKind.i64 (.tm (Int.ofNat x))))], bl := fun x => [(1, .cells 47 4 [.int IntKind.i64 (.tm st), .int IntKind.i64 (.tm pl), .int IntKind.i64 (.tm ho), .int IntKind.i64 (.tm ge)])], nx := (1 : Nat) + (1 : Nat) + (1 : Nat)}, {ι := Nat, G := fun x => 1 ≤ x ∧ x ≤ pl.toNat, μ := fun x => pl.toNat - x, tl := fun x => [(0, .agg [.int IntKind.i64 (.tm st), .int IntKind.i64 (.tm pl), .int IntKind.i64 (.tm ho), .int IntKind.i64 (.tm ge)]), (1, .one (.fz (.root 0 4) (FD.list [Sh.list [Sh.int IntKind.i64]] nfl ffl))), (2, .one (.int IntKind.i64 (.tm n))), (3, .one (.ptr (some (1, 0)))), (9, .one (.own 3 x)), (24, .one (.int IntKind.i64 (.tm pl))), (25, .one (.int IntKind.i64 (.tm (Int.ofNat x))))], bl := fun x => [(1, .cells 47 4 [.int IntKind.i64 (.tm st), .int IntKind.i64 (.tm pl), .int IntKind.i64 (.tm ho), .int IntKind.i64 (.tm ge)]), (3, .row 22 [.list [.int .i64]] x (fun z _ => thickRow st pl ho ge ffl n z))], nx := 4}]⟩ | 10 => ⟨Nat, fun z => [{ι := Nat, G := fun x => (z = 0 ∧ z < pl.toNat) ∧ x = 0, μ := fun x => ho.toNat - x, tl := fun x => [(0, .agg [.int IntKind.i64 (.tm st), .int IntKind.i64 (.tm pl), .int IntKind.i64 (.tm ho), .int IntKind.i64 (.tm ge)]), (1, .one (.fz (.root 0 4) (FD.list [Sh.list [Sh.int IntKind.i64]] nfl ffl))), (2, .one (.int IntKind.i64 (.tm n))), (3, .one (.ptr (some (1, 0)))), (9, .one (.slice none 0 (.known 0))), (10, .one (.int IntKind.i64 (.tm (Int.ofNat z)))), (11, .one (.slice none 0 (.known 0))), (24, .one (.int IntKind.i64 (.tm pl))), (25, .one (.int IntKind.i64 (.tm (Int.ofNat z)))), (29, .one (.int IntKind.i64 (.tm ho))), (30, .one (.int IntKind.i64 (.tm (Int.ofNat x))))], bl := fun x => [(1, .cells 47 4 [.int IntKind.i64 (.tm st), .int IntKind.i64 (.tm pl), .int IntKind.i64 (.tm ho), .int IntKind.i64 (.tm ge)])], nx := (1 : Nat) + (1 : Nat) + (1 : Nat)}, {ι := Nat, G := fun x => (z = 0 ∧ z < pl.toNat) ∧ (1 ≤ x ∧ x ≤ ho.toNat), μ := fun x => ho.toNat - x, tl := fun x => [(0, .agg [.int IntKind.i64 (.tm st), .int IntKind.i64 (.tm pl), .int IntKind.i64 (.tm ho), .int IntKind.i64 (.tm ge)]), (1, .one (.fz (.root 0 4) (FD.list [Sh.list [Sh.int IntKind.i64]] nfl ffl))), (2, .one (.int IntKind.i64 (.tm n))), (3, .one (.ptr (some (1, 0)))), (9, .one (.slice none 0 (.known 0))), (10, .one (.int IntKind.i64 (.tm (Int.ofNat z)))), (11, .one (.own 3 x)), (24, .one (.int IntKind.i64 (.tm pl))), (25, .one (.int IntKind.i64 (.tm (Int.ofNat z)))), (29, .one (.int IntKind.i64 (.tm ho))), (30, .one (.int IntKind.i64 (.tm (Int.ofNat x))))], bl := fun x => [(1, .cells 47 4 [.int IntKind.i64 (.tm st), .int IntKind.i64 (.tm pl), .int IntKind.i64 (.tm ho), .int IntKind.i64 (.tm ge)]), (3, .row 3 [.int .i64] x (fun k _ => .int .i64 (thickV st pl ho ge z k ffl n)))], nx := 4}, {ι := Nat, G := fun x => (1 ≤ z ∧ z < pl.toNat) ∧ x = 0, μ := fun x => ho.toNat - x, tl := fun x => [(0, .agg [.int IntKind.i64 (.tm st), .int IntKind.i64 (.tm pl), .int IntKind.i64 (.tm ho), .int IntKind.i64 (.tm ge)]), (1, .one (.fz (.root 0 4) (FD.list [Sh.list [Sh.int IntKind.i64]] nfl ffl))), (2, .one (.int IntKind.i64 (.tm n))), (3, .one (.ptr (some (1, 0)))), (9, .one (.own 3 z)), (10, .one (.int IntKind.i64 (.tm (Int.ofNat z)))), (11, .one (.slice none 0 (.known 0))), (24, .one (.int IntKind.i64 (.tm pl))), (25, .one (.int IntKind.i64 (.tm (Int.ofNat z)))), (29, .one (.int IntKind.i64 (.tm ho))), (30, .one (.int IntKind.i64 (.tm (Int.ofNat x))))], bl := fun x => [(1, .cells 47 4 [.int IntKind.i64 (.tm st), .int IntKind.i64 (.tm pl), .int IntKind.i64 (.tm ho), .int IntKind.i64 (.tm ge)]), (3, .row 22 [.list [.int .i64]] z (fun z _ => thickRow st pl ho ge ffl n z))], nx := 4}, {ι := Nat, G := fun x => (1 ≤ z ∧ z < pl.toNat) ∧ (1 ≤ x ∧ x ≤ ho.toNat), μ := fun x => ho.toNat - x, tl := fun x => [(0, .agg [.int IntKind.i64 (.tm st), .int IntKind.i64 (.tm pl), .int IntKind.i64 (.tm ho), .int IntKind.i64 (.tm ge)]), (1, .one (.fz (.root 0 4) (FD.list [Sh.list [Sh.int IntKind.i64]] nfl ffl))), (2, .one (.int IntKind.i64 (.tm n))), (3, .one (.ptr (some (1, 0)))), (9, .one (.own 3 z)), (10, .one (.int IntKind.i64 (.tm (Int.ofNat z)))), (11, .one (.own 4 x)), (24, .one (.int IntKind.i64 (.tm pl))), (25, .one (.int IntKind.i64 (.tm (Int.ofNat z)))), (29, .one (.int IntKind.i64 (.tm ho))), (30, .one (.int IntKind.i64 (.tm (Int.ofNat x))))], bl := fun x => [(1, .cells 47 4 [.int IntKind.i64 (.tm st), .int IntKind.i64 (.tm pl), .int IntKind.i64 (.tm ho), .int IntKind.i64 (.tm ge)]), (3, .row 22 [.list [.int .i64]] z (fun z _ => thickRow st pl ho ge ffl n z)), (4, .row 3 [.int .i64] x (fun k _ => .int .i64 (thickV st pl ho ge z k ffl n)))], nx := 5}]⟩ | _ => ⟨Nat, fun _ => []⟩
abbrev qallThick2 (st : Int) (pl : Int) (ho : Int) (ge : Int) : Prop := ((((IntKind.i64) = (IntKind.i64)) ∧ ((st) = (st))) ∧ ((((IntKind.i64) = (IntKind.i64)) ∧ ((pl) = (pl))) ∧ ((((IntKind.i64) = (IntKind.i64)) ∧ ((ho) = (ho))) ∧ ((((IntKind.i64) = (IntKind.i64)) ∧ ((ge) = (ge))) ∧ True))))
abbrev qallThick3 (pl : Int) (ho : Int) (y2 : Nat) (y3 : Nat) (y4 : Nat) : Prop := ((((IntKind.i64) = (IntKind.i64)) ∧ ((pl) = (pl))) ∧ ((((IntKind.i64) = (IntKind.i64)) ∧ ((Int.ofNat y2) = (Int.ofNat y2))) ∧ ((((IntKind.i64) = (IntKind.i64)) ∧ ((ho) = (ho))) ∧ ((((IntKind.i64) = (IntKind.i64)) ∧ ((Int.ofNat y4) = (IntKind.wrap IntKind.i64 (Int.ofNat y3 + (1 : Int))))) ∧ True))))
abbrev qallThick4 (nfl : Nat) (ffl : Nat → Nat → FD) : Prop := (((Ref.root (0) (4)) = (Ref.root (0) (4))) ∧ (((FD.list [Sh.list [Sh.int IntKind.i64]] nfl ffl) = (FD.list [Sh.list [Sh.int IntKind.i64]] nfl ffl)) ∧ (true = true)))
abbrev qallThick5 (pl : Int) (ho : Int) (y1 : Nat) (y2 : Nat) (y3 : Nat) : Prop := ((((IntKind.i64) = (IntKind.i64)) ∧ ((pl) = (pl))) ∧ ((((IntKind.i64) = (IntKind.i64)) ∧ ((Int.ofNat y2) = (Int.ofNat y1))) ∧ ((((IntKind.i64) = (IntKind.i64)) ∧ ((ho) = (ho))) ∧ ((((IntKind.i64) = (IntKind.i64)) ∧ ((Int.ofNat y3) = ((0 : Int)))) ∧ True))))
abbrev qallThick6 (st : Int) (pl : Int) (ho : Int) (ge : Int) (ffl : Nat → Nat → FD) (n : Int) (y2 : Nat) (y3 : Nat) (y4 : Nat) : Prop := (((((3 : TypeId)) = ((3 : TypeId))) ∧ ((([Sh.int IntKind.i64]) = ([Sh.int IntKind.i64])) ∧ (((y4) = (y3 + (1 : Nat))) ∧ (∀ y5 : Nat, (y5 < y4 → (∀ y6 : Nat, (y6 < List.length [Sh.int IntKind.i64] → ((FD.int IntKind.i64 (thickV st pl ho ge (↑y2 : Int) (↑y5 : Int) ffl n)) = (bif Nat.blt y5 y3 then FD.int IntKind.i64 (thickV st pl ho ge (↑y2 : Int) (↑y5 : Int) ffl n) else atFD [FD.int IntKind.i64 (thickV st pl ho ge (Int.ofNat y2) (Int.ofNat y3) ffl n)] y6))))))))) ∧ True)
abbrev qallThick8 (st : Int) (pl : Int) (ho : Int) (ge : Int) (ffl : Nat → Nat → FD) (n : Int) (y2 : Nat) (y3 : Nat) (y4 : Nat) : Prop := (((((3 : TypeId)) = ((3 : TypeId))) ∧ ((([Sh.int IntKind.i64]) = ([Sh.int IntKind.i64])) ∧ (((y4) = ((0 : Nat) + (1 : Nat))) ∧ (∀ y5 : Nat, (y5 < y4 → (∀ y6 : Nat, (y6 < List.length [Sh.int IntKind.i64] → ((FD.int IntKind.i64 (thickV st pl ho ge (↑y2 : Int) (↑y5 : Int) ffl n)) = (atFD [FD.int IntKind.i64 (thickV st pl ho ge (Int.ofNat y2) (Int.ofNat y3) ffl n)] y6))))))))) ∧ True)
abbrev qallThick9 (st : Int) (pl : Int) (ho : Int) (ge : Int) (nfl : Nat) (ffl : Nat → Nat → FD) (n : Int) (y2 : Nat) (y3 : Nat) (y4 : Nat) : Prop := ((true = true) ∧ ((qallThick2 st pl ho ge) ∧ ((qallThick4 nfl ffl) ∧ ((((IntKind.i64) = (IntKind.i64)) ∧ ((n) = (n))) ∧ ((((1, 1) ∈ ([(1, 1)] : List (Nat × Nat))) ∧ ((Prod.snd ((1 : Nat), (0 : Nat))) = (Prod.snd ((1 : Nat), (0 : Nat))))) ∧ (False ∧ ((((IntKind.i64) = (IntKind.i64)) ∧ ((Int.ofNat y2) = (Int.ofNat y2))) ∧ (False ∧ (qallThick3 pl ho y2 y3 y4)))))))))
abbrev qallThick11 (st : Int) (pl : Int) (ho : Int) (ge : Int) (nfl : Nat) (ffl : Nat → Nat → FD) (n : Int) (y2 : Nat) (y3 : Nat) : Prop := (((thickC ([FD.int IntKind.i64 st, FD.int IntKind.i64 pl, FD.int IntKind.i64 ho, FD.int IntKind.i64 ge, FD.int IntKind.i64 (Int.ofNat y2), FD.int IntKind.i64 (Int.ofNat y3)] ++ [FD.list [Sh.list [Sh.int IntKind.i64]] nfl ffl, FD.int IntKind.i64 n])) = (false)) → False)
abbrev qallThick12 (st : Int) (pl : Int) (ho : Int) (ge : Int) (nfl : Nat) (ffl : Nat → Nat → FD) (n : Int) (y2 : Nat) (y3 : Nat) : Prop := (∃ y4 : Nat, ((((((y2) = ((0 : Nat))) ∧ y2 < Int.toNat pl) ∧ ((y4) = ((0 : Nat)))) ∧ Int.toNat ho - y4 < Int.toNat ho - y3) ∧ (((true = true) ∧ ((qallThick2 st pl ho ge) ∧ ((qallThick4 nfl ffl) ∧ ((((IntKind.i64) = (IntKind.i64)) ∧ ((n) = (n))) ∧ ((((1, 1) ∈ ([(1, 1)] : List (Nat × Nat))) ∧ ((Prod.snd ((1 : Nat), (0 : Nat))) = (Prod.snd ((1 : Nat), (0 : Nat))))) ∧ (((((0 : Nat)) = ((0 : Nat))) ∧ (((0 : Nat)) = ((0 : Nat)))) ∧ ((((IntKind.i64) = (IntKind.i64)) ∧ ((Int.ofNat y2) = (Int.ofNat y2))) ∧ (False ∧ (qallThick3 pl ho y2 y3 y4))))))))) ∧ (((((47 : TypeId)) = ((47 : TypeId))) ∧ ((((4 : Nat)) = ((4 : Nat))) ∧ (qallThick2 st pl ho ge))) ∧ True))))
abbrev qallThick13 (st : Int) (pl : Int) (ho : Int) (ge : Int) (nfl : Nat) (ffl : Nat → Nat → FD) (n : Int) (y2 : Nat) (y3 : Nat) : Prop := ((thickC ([FD.int IntKind.i64 st, FD.int IntKind.i64 pl, FD.int IntKind.i64 ho, FD.int IntKind.i64 ge, FD.int IntKind.i64 (Int.ofNat y2), FD.int IntKind.i64 (Int.ofNat y3)] ++ [FD.list [Sh.list [Sh.int IntKind.i64]] nfl ffl, FD.int IntKind.i64 n])) = (true))
abbrev qallThick14 (st : Int) (pl : Int) (ho : Int) (ge : Int) (ffl : Nat → Nat → FD) (n : Int) (y2 : Nat) : Prop := ((((22 : TypeId)) = ((22 : TypeId))) ∧ ((([Sh.list [Sh.int IntKind.i64]]) = ([Sh.list [Sh.int IntKind.i64]])) ∧ (((y2) = (y2)) ∧ (∀ y5 : Nat, (y5 < y2 → (∀ y6 : Nat, (y6 < List.length [Sh.list [Sh.int IntKind.i64]] → ((thickRow st pl ho ge ffl n y5) = (thickRow st pl ho ge ffl n y5)))))))))
abbrev qallThick10 (st : Int) (pl : Int) (ho : Int) (ge : Int) (nfl : Nat) (ffl : Nat → Nat → FD) (n : Int) (y2 : Nat) (y3 : Nat) : Prop := (∃ y4 : Nat, (((((1 : Nat) ≤ y2 ∧ y2 < Int.toNat pl) ∧ ((y4) = ((0 : Nat)))) ∧ Int.toNat ho - y4 < Int.toNat ho - y3) ∧ (((true = true) ∧ ((qallThick2 st pl ho ge) ∧ ((qallThick4 nfl ffl) ∧ ((((IntKind.i64) = (IntKind.i64)) ∧ ((n) = (n))) ∧ ((((1, 1) ∈ ([(3, 3), (1, 1)] : List (Nat × Nat))) ∧ ((Prod.snd ((1 : Nat), (0 : Nat))) = (Prod.snd ((1 : Nat), (0 : Nat))))) ∧ ((((3, 3) ∈ ([(3, 3), (1, 1)] : List (Nat × Nat))) ∧ ((y2) = (y2))) ∧ ((((IntKind.i64) = (IntKind.i64)) ∧ ((Int.ofNat y2) = (Int.ofNat y2))) ∧ (False ∧ (qallThick3 pl ho y2 y3 y4))))))))) ∧ (((((47 : TypeId)) = ((47 : TypeId))) ∧ ((((4 : Nat)) = ((4 : Nat))) ∧ (qallThick2 st pl ho ge))) ∧ ((qallThick14 st pl ho ge ffl n y2) ∧ True)))))
abbrev qallThick15 (st : Int) (pl : Int) (ho : Int) (ge : Int) (nfl : Nat) (ffl : Nat → Nat → FD) (n : Int) (y1 : Nat) (y2 : Nat) (y3 : Nat) : Prop := ((true = true) ∧ ((qallThick2 st pl ho ge) ∧ ((qallThick4 nfl ffl) ∧ ((((IntKind.i64) = (IntKind.i64)) ∧ ((n) = (n))) ∧ ((((1, 1) ∈ ([(1, 1)] : List (Nat × Nat))) ∧ ((Prod.snd ((1 : Nat), (0 : Nat))) = (Prod.snd ((1 : Nat), (0 : Nat))))) ∧ (False ∧ ((((IntKind.i64) = (IntKind.i64)) ∧ ((Int.ofNat y2) = (Int.ofNat y1))) ∧ (((((0 : Nat)) = ((0 : Nat))) ∧ (((0 : Nat)) = ((0 : Nat)))) ∧ (qallThick5 pl ho y1 y2 y3)))))))))
abbrev qallThick16 (pl : Int) (y2 : Nat) (y4 : Nat) : Prop := ((((IntKind.i64) = (IntKind.i64)) ∧ ((pl) = (pl))) ∧ ((((IntKind.i64) = (IntKind.i64)) ∧ ((Int.ofNat y4) = (IntKind.wrap IntKind.i64 (Int.ofNat y2 + (1 : Int))))) ∧ True))
abbrev qallThick7 (st : Int) (pl : Int) (ho : Int) (ge : Int) (nfl : Nat) (ffl : Nat → Nat → FD) (n : Int) (y1 : Nat) (y2 : Nat) : Prop := (∃ y4 : Nat, ((((y4) = ((0 : Nat))) ∧ Int.toNat pl - y4 < Int.toNat pl - y1) ∧ (((true = true) ∧ ((qallThick2 st pl ho ge) ∧ ((qallThick4 nfl ffl) ∧ ((((IntKind.i64) = (IntKind.i64)) ∧ ((n) = (n))) ∧ ((((1, 1) ∈ ([(1, 1)] : List (Nat × Nat))) ∧ ((Prod.snd ((1 : Nat), (0 : Nat))) = (Prod.snd ((1 : Nat), (0 : Nat))))) ∧ (False ∧ (qallThick16 pl y2 y4))))))) ∧ (((((47 : TypeId)) = ((47 : TypeId))) ∧ ((((4 : Nat)) = ((4 : Nat))) ∧ (qallThick2 st pl ho ge))) ∧ True))))
abbrev qallThick0 (st : Int) (pl : Int) (ho : Int) (ge : Int) (nfl : Nat) (ffl : Nat → Nat → FD) (n : Int) (y1 : Nat) (y2 : Nat) : Prop := ((∀ y3 : Nat, (((((y2) = ((0 : Nat))) ∧ y2 < Int.toNat pl) ∧ ((y3) = ((0 : Nat)))) → ((((decide (Int.ofNat y3 < ho)) = (true)) → (((qallThick13 st pl ho ge nfl ffl n y2 y3) → (((true = true) → ((qallThick12 st pl ho ge nfl ffl n y2 y3) ∨ ((∃ y4 : Nat, ((((((y2) = ((0 : Nat))) ∧ y2 < Int.toNat pl) ∧ ((1 : Nat) ≤ y4 ∧ y4 ≤ Int.toNat ho)) ∧ Int.toNat ho - y4 < Int.toNat ho - y3) ∧ (((true = true) ∧ ((qallThick2 st pl ho ge) ∧ ((qallThick4 nfl ffl) ∧ ((((IntKind.i64) = (IntKind.i64)) ∧ ((n) = (n))) ∧ ((((1, 1) ∈ ([(3, 4), (1, 1)] : List (Nat × Nat))) ∧ ((Prod.snd ((1 : Nat), (0 : Nat))) = (Prod.snd ((1 : Nat), (0 : Nat))))) ∧ (((((0 : Nat)) = ((0 : Nat))) ∧ (((0 : Nat)) = ((0 : Nat)))) ∧ ((((IntKind.i64) = (IntKind.i64)) ∧ ((Int.ofNat y2) = (Int.ofNat y2))) ∧ ((((3, 4) ∈ ([(3, 4), (1, 1)] : List (Nat × Nat))) ∧ ((y4) = ((0 : Nat) + (1 : Nat)))) ∧ (qallThick3 pl ho y2 y3 y4))))))))) ∧ (((((47 : TypeId)) = ((47 : TypeId))) ∧ ((((4 : Nat)) = ((4 : Nat))) ∧ (qallThick2 st pl ho ge))) ∧ (qallThick8 st pl ho ge ffl n y2 y3 y4))))) ∨ ((∃ y4 : Nat, (((((1 : Nat) ≤ y2 ∧ y2 < Int.toNat pl) ∧ ((y4) = ((0 : Nat)))) ∧ Int.toNat ho - y4 < Int.toNat ho - y3) ∧ ((qallThick9 st pl ho ge nfl ffl n y2 y3 y4) ∧ (((((47 : TypeId)) = ((47 : TypeId))) ∧ ((((4 : Nat)) = ((4 : Nat))) ∧ (qallThick2 st pl ho ge))) ∧ (False ∧ True))))) ∨ (∃ y4 : Nat, (((((1 : Nat) ≤ y2 ∧ y2 < Int.toNat pl) ∧ ((1 : Nat) ≤ y4 ∧ y4 ≤ Int.toNat ho)) ∧ Int.toNat ho - y4 < Int.toNat ho - y3) ∧ (((true = true) ∧ ((qallThick2 st pl ho ge) ∧ ((qallThick4 nfl ffl) ∧ ((((IntKind.i64) = (IntKind.i64)) ∧ ((n) = (n))) ∧ ((((1, 1) ∈ ([(4, 4), (1, 1)] : List (Nat × Nat))) ∧ ((Prod.snd ((1 : Nat), (0 : Nat))) = (Prod.snd ((1 : Nat), (0 : Nat))))) ∧ (False ∧ ((((IntKind.i64) = (IntKind.i64)) ∧ ((Int.ofNat y2) = (Int.ofNat y2))) ∧ ((((4, 4) ∈ ([(4, 4), (1, 1)] : List (Nat × Nat))) ∧ ((y4) = ((0 : Nat) + (1 : Nat)))) ∧ (qallThick3 pl ho y2 y3 y4))))))))) ∧ (((((47 : TypeId)) = ((47 : TypeId))) ∧ ((((4 : Nat)) = ((4 : Nat))) ∧ (qallThick2 st pl ho ge))) ∧ (False ∧ (qallThick8 st pl ho ge ffl n y2 y3 y4)))))))))) ∧ ((true = false) → False))) ∧ (qallThick11 st pl ho ge nfl ffl n y2 y3))) ∧ (((decide (Int.ofNat y3 < ho)) = (false)) → ((qallThick7 st pl ho ge nfl ffl n y1 y2) ∨ (∃ y4 : Nat, ((((1 : Nat) ≤ y4 ∧ y4 ≤ Int.toNat pl) ∧ Int.toNat pl - y4 < Int.toNat pl - y1) ∧ (((true = true) ∧ ((qallThick2 st pl ho ge) ∧ ((qallThick4 nfl ffl) ∧ ((((IntKind.i64) = (IntKind.i64)) ∧ ((n) = (n))) ∧ ((((1, 1) ∈ ([(3, 4), (1, 1)] : List (Nat × Nat))) ∧ ((Prod.snd ((1 : Nat), (0 : Nat))) = (Prod.snd ((1 : Nat), (0 : Nat))))) ∧ ((((3, 4) ∈ ([(3, 4), (1, 1)] : List (Nat × Nat))) ∧ ((y4) = ((1 : Nat)))) ∧ (qallThick16 pl y2 y4))))))) ∧ (((((47 : TypeId)) = ((47 : TypeId))) ∧ ((((4 : Nat)) = ((4 : Nat))) ∧ (qallThick2 st pl ho ge))) ∧ (False ∧ True)))))))))) ∧ ((∀ y3 : Nat, (((((y2) = ((0 : Nat))) ∧ y2 < Int.toNat pl) ∧ ((1 : Nat) ≤ y3 ∧ y3 ≤ Int.toNat ho)) → ((((decide (Int.ofNat y3 < ho)) = (true)) → (((qallThick13 st pl ho ge nfl ffl n y2 y3) → ((((Nat.beq y3 y3 && (true && Nat.ble (y3 + (1 : Nat)) (1000000 : Nat))) = (true)) → ((qallThick12 st pl ho ge nfl ffl n y2 y3) ∨ ((∃ y4 : Nat, ((((((y2) = ((0 : Nat))) ∧ y2 < Int.toNat pl) ∧ ((1 : Nat) ≤ y4 ∧ y4 ≤ Int.toNat ho)) ∧ Int.toNat ho - y4 < Int.toNat ho - y3) ∧ (((true = true) ∧ ((qallThick2 st pl ho ge) ∧ ((qallThick4 nfl ffl) ∧ ((((IntKind.i64) = (IntKind.i64)) ∧ ((n) = (n))) ∧ ((((1, 1) ∈ ([(3, 5), (1, 1)] : List (Nat × Nat))) ∧ ((Prod.snd ((1 : Nat), (0 : Nat))) = (Prod.snd ((1 : Nat), (0 : Nat))))) ∧ (((((0 : Nat)) = ((0 : Nat))) ∧ (((0 : Nat)) = ((0 : Nat)))) ∧ ((((IntKind.i64) = (IntKind.i64)) ∧ ((Int.ofNat y2) = (Int.ofNat y2))) ∧ ((((3, 5) ∈ ([(3, 5), (1, 1)] : List (Nat × Nat))) ∧ ((y4) = (y3 + (1 : Nat)))) ∧ (qallThick3 pl ho y2 y3 y4))))))))) ∧ (((((47 : TypeId)) = ((47 : TypeId))) ∧ ((((4 : Nat)) = ((4 : Nat))) ∧ (qallThick2 st pl ho ge))) ∧ (qallThick6 st pl ho ge ffl n y2 y3 y4))))) ∨ ((∃ y4 : Nat, (((((1 : Nat) ≤ y2 ∧ y2 < Int.toNat pl) ∧ ((y4) = ((0 : Nat)))) ∧ Int.toNat ho - y4 < Int.toNat ho - y3) ∧ ((qallThick9 st pl ho ge nfl ffl n y2 y3 y4) ∧ (((((47 : TypeId)) = ((47 : TypeId))) ∧ ((((4 : Nat)) = ((4 : Nat))) ∧ (qallThick2 st pl ho ge))) ∧ (False ∧ True))))) ∨ (∃ y4 : Nat, (((((1 : Nat) ≤ y2 ∧ y2 < Int.toNat pl) ∧ ((1 : Nat) ≤ y4 ∧ y4 ≤ Int.toNat ho)) ∧ Int.toNat ho - y4 < Int.toNat ho - y3) ∧ (((true = true) ∧ ((qallThick2 st pl ho ge) ∧ ((qallThick4 nfl ffl) ∧ ((((IntKind.i64) = (IntKind.i64)) ∧ ((n) = (n))) ∧ ((((1, 1) ∈ ([(4, 5), (1, 1)] : List (Nat × Nat))) ∧ ((Prod.snd ((1 : Nat), (0 : Nat))) = (Prod.snd ((1 : Nat), (0 : Nat))))) ∧ (False ∧ ((((IntKind.i64) = (IntKind.i64)) ∧ ((Int.ofNat y2) = (Int.ofNat y2))) ∧ ((((4, 5) ∈ ([(4, 5), (1, 1)] : List (Nat × Nat))) ∧ ((y4) = (y3 + (1 : Nat)))) ∧ (qallThick3 pl ho y2 y3 y4))))))))) ∧ (((((47 : TypeId)) = ((47 : TypeId))) ∧ ((((4 : Nat)) = ((4 : Nat))) ∧ (qallThick2 st pl ho ge))) ∧ (False ∧ (qallThick6 st pl ho ge ffl n y2 y3 y4)))))))))) ∧ (((Nat.beq y3 y3 && (true && Nat.ble (y3 + (1 : Nat)) (1000000 : Nat))) = (false)) → False))) ∧ (qallThick11 st pl ho ge nfl ffl n y2 y3))) ∧ (((decide (Int.ofNat y3 < ho)) = (false)) → ((((true && (Nat.beq y3 y3 && Nat.ble ((0 : Nat) + (1 : Nat)) (1000000 : Nat))) = (true)) → ((qallThick7 st pl ho ge nfl ffl n y1 y2) ∨ (∃ y4 : Nat, ((((1 : Nat) ≤ y4 ∧ y4 ≤ Int.toNat pl) ∧ Int.toNat pl - y4 < Int.toNat pl - y1) ∧ (((true = true) ∧ ((qallThick2 st pl ho ge) ∧ ((qallThick4 nfl ffl) ∧ ((((IntKind.i64) = (IntKind.i64)) ∧ ((n) = (n))) ∧ ((((1, 1) ∈ ([(3, 5), (1, 1)] : List (Nat × Nat))) ∧ ((Prod.snd ((1 : Nat), (0 : Nat))) = (Prod.snd ((1 : Nat), (0 : Nat))))) ∧ ((((3, 5) ∈ ([(3, 5), (1, 1)] : List (Nat × Nat))) ∧ ((y4) = ((0 : Nat) + (1 : Nat)))) ∧ (qallThick16 pl y2 y4))))))) ∧ (((((47 : TypeId)) = ((47 : TypeId))) ∧ ((((4 : Nat)) = ((4 : Nat))) ∧ (qallThick2 st pl ho ge))) ∧ (((((22 : TypeId)) = ((22 : TypeId))) ∧ ((([Sh.list [Sh.int IntKind.i64]]) = ([Sh.list [Sh.int IntKind.i64]])) ∧ (((y4) = ((0 : Nat) + (1 : Nat))) ∧ (∀ y5 : Nat, (y5 < y4 → (∀ y6 : Nat, (y6 < List.length [Sh.list [Sh.int IntKind.i64]] → ((thickRow st pl ho ge ffl n y5) = (FD.list [Sh.int IntKind.i64] y3 fun (k x : Nat) => FD.int IntKind.i64 (thickV st pl ho ge (↑y2 : Int) (↑k : Int) ffl n)))))))))) ∧ True))))))) ∧ (((true && (Nat.beq y3 y3 && Nat.ble ((0 : Nat) + (1 : Nat)) (1000000 : Nat))) = (false)) → False)))))) ∧ ((∀ y3 : Nat, ((((1 : Nat) ≤ y2 ∧ y2 < Int.toNat pl) ∧ ((y3) = ((0 : Nat)))) → ((((decide (Int.ofNat y3 < ho)) = (true)) → (((qallThick13 st pl ho ge nfl ffl n y2 y3) → (((true = true) → ((∃ y4 : Nat, ((((((y2) = ((0 : Nat))) ∧ y2 < Int.toNat pl) ∧ ((y4) = ((0 : Nat)))) ∧ Int.toNat ho - y4 < Int.toNat ho - y3) ∧ ((qallThick9 st pl ho ge nfl ffl n y2 y3 y4) ∧ (((((47 : TypeId)) = ((47 : TypeId))) ∧ ((((4 : Nat)) = ((4 : Nat))) ∧ (qallThick2 st pl ho ge))) ∧ True)))) ∨ ((∃ y4 : Nat, ((((((y2) = ((0 : Nat))) ∧ y2 < Int.toNat pl) ∧ ((1 : Nat) ≤ y4 ∧ y4 ≤ Int.toNat ho)) ∧ Int.toNat ho - y4 < Int.toNat ho - y3) ∧ (((true = true) ∧ ((qallThick2 st pl ho ge) ∧ ((qallThick4 nfl ffl) ∧ ((((IntKind.i64) = (IntKind.i64)) ∧ ((n) = (n))) ∧ ((((1, 1) ∈ ([(3, 5), (1, 1)] : List (Nat × Nat))) ∧ ((Prod.snd ((1 : Nat), (0 : Nat))) = (Prod.snd ((1 : Nat), (0 : Nat))))) ∧ (False ∧ ((((IntKind.i64) = (IntKind.i64)) ∧ ((Int.ofNat y2) = (Int.ofNat y2))) ∧ ((((3, 5) ∈ ([(3, 5), (1, 1)] : List (Nat × Nat))) ∧ ((y4) = ((0 : Nat) + (1 : Nat)))) ∧ (qallThick3 pl ho y2 y3 y4))))))))) ∧ (((((47 : TypeId)) = ((47 : TypeId))) ∧ ((((4 : Nat)) = ((4 : Nat))) ∧ (qallThick2 st pl ho ge))) ∧ (qallThick8 st pl ho ge ffl n y2 y3 y4))))) ∨ ((qallThick10 st pl ho ge nfl ffl n y2 y3) ∨ (∃ y4 : Nat, (((((1 : Nat) ≤ y2 ∧ y2 < Int.toNat pl) ∧ ((1 : Nat) ≤ y4 ∧ y4 ≤ Int.toNat ho)) ∧ Int.toNat ho - y4 < Int.toNat ho - y3) ∧ (((true = true) ∧ ((qallThick2 st pl ho ge) ∧ ((qallThick4 nfl ffl) ∧ ((((IntKind.i64) = (IntKind.i64)) ∧ ((n) = (n))) ∧ ((((1, 1) ∈ ([(4, 5), (3, 3), (1, 1)] : List (Nat × Nat))) ∧ ((Prod.snd ((1 : Nat), (0 : Nat))) = (Prod.snd ((1 : Nat), (0 : Nat))))) ∧ ((((3, 3) ∈ ([(4, 5), (3, 3), (1, 1)] : List (Nat × Nat))) ∧ ((y2) = (y2))) ∧ ((((IntKind.i64) = (IntKind.i64)) ∧ ((Int.ofNat y2) = (Int.ofNat y2))) ∧ ((((4, 5) ∈ ([(4, 5), (3, 3), (1, 1)] : List (Nat × Nat))) ∧ ((y4) = ((0 : Nat) + (1 : Nat)))) ∧ (qallThick3 pl ho y2 y3 y4))))))))) ∧ (((((47 : TypeId)) = ((47 : TypeId))) ∧ ((((4 : Nat)) = ((4 : Nat))) ∧ (qallThick2 st pl ho ge))) ∧ ((qallThick14 st pl ho ge ffl n y2) ∧ (qallThick8 st pl ho ge ffl n y2 y3 y4)))))))))) ∧ ((true = false) → False))) ∧ (qallThick11 st pl ho ge nfl ffl n y2 y3))) ∧ (((decide (Int.ofNat y3 < ho)) = (false)) → False)))) ∧ (∀ y3 : Nat, ((((1 : Nat) ≤ y2 ∧ y2 < Int.toNat pl) ∧ ((1 : Nat) ≤ y3 ∧ y3 ≤ Int.toNat ho)) → ((((decide (Int.ofNat y3 < ho)) = (true)) → (((qallThick13 st pl ho ge nfl ffl n y2 y3) → ((((Nat.beq y3 y3 && (true && Nat.ble (y3 + (1 : Nat)) (1000000 : Nat))) = (true)) → ((∃ y4 : Nat, ((((((y2) = ((0 : Nat))) ∧ y2 < Int.toNat pl) ∧ ((y4) = ((0 : Nat)))) ∧ Int.toNat ho - y4 < Int.toNat ho - y3) ∧ ((qallThick9 st pl ho ge nfl ffl n y2 y3 y4) ∧ (((((47 : TypeId)) = ((47 : TypeId))) ∧ ((((4 : Nat)) = ((4 : Nat))) ∧ (qallThick2 st pl ho ge))) ∧ True)))) ∨ ((∃ y4 : Nat, ((((((y2) = ((0 : Nat))) ∧ y2 < Int.toNat pl) ∧ ((1 : Nat) ≤ y4 ∧ y4 ≤ Int.toNat ho)) ∧ Int.toNat ho - y4 < Int.toNat ho - y3) ∧ (((true = true) ∧ ((qallThick2 st pl ho ge) ∧ ((qallThick4 nfl ffl) ∧ ((((IntKind.i64) = (IntKind.i64)) ∧ ((n) = (n))) ∧ ((((1, 1) ∈ ([(3, 6), (1, 1)] : List (Nat × Nat))) ∧ ((Prod.snd ((1 : Nat), (0 : Nat))) = (Prod.snd ((1 : Nat), (0 : Nat))))) ∧ (False ∧ ((((IntKind.i64) = (IntKind.i64)) ∧ ((Int.ofNat y2) = (Int.ofNat y2))) ∧ ((((3, 6) ∈ ([(3, 6), (1, 1)] : List (Nat × Nat))) ∧ ((y4) = (y3 + (1 : Nat)))) ∧ (qallThick3 pl ho y2 y3 y4))))))))) ∧ (((((47 : TypeId)) = ((47 : TypeId))) ∧ ((((4 : Nat)) = ((4 : Nat))) ∧ (qallThick2 st pl ho ge))) ∧ (qallThick6 st pl ho ge ffl n y2 y3 y4))))) ∨ ((qallThick10 st pl ho ge nfl ffl n y2 y3) ∨ (∃ y4 : Nat, (((((1 : Nat) ≤ y2 ∧ y2 < Int.toNat pl) ∧ ((1 : Nat) ≤ y4 ∧ y4 ≤ Int.toNat ho)) ∧ Int.toNat ho - y4 < Int.toNat ho - y3) ∧ (((true = true) ∧ ((qallThick2 st pl ho ge) ∧ ((qallThick4 nfl ffl) ∧ ((((IntKind.i64) = (IntKind.i64)) ∧ ((n) = (n))) ∧ ((((1, 1) ∈ ([(4, 6), (3, 3), (1, 1)] : List (Nat × Nat))) ∧ ((Prod.snd ((1 : Nat), (0 : Nat))) = (Prod.snd ((1 : Nat), (0 : Nat))))) ∧ ((((3, 3) ∈ ([(4, 6), (3, 3), (1, 1)] : List (Nat × Nat))) ∧ ((y2) = (y2))) ∧ ((((IntKind.i64) = (IntKind.i64)) ∧ ((Int.ofNat y2) = (Int.ofNat y2))) ∧ ((((4, 6) ∈ ([(4, 6), (3, 3), (1, 1)] : List (Nat × Nat))) ∧ ((y4) = (y3 + (1 : Nat)))) ∧ (qallThick3 pl ho y2 y3 y4))))))))) ∧ (((((47 : TypeId)) = ((47 : TypeId))) ∧ ((((4 : Nat)) = ((4 : Nat))) ∧ (qallThick2 st pl ho ge))) ∧ ((qallThick14 st pl ho ge ffl n y2) ∧ (qallThick6 st pl ho ge ffl n y2 y3 y4)))))))))) ∧ (((Nat.beq y3 y3 && (true && Nat.ble (y3 + (1 : Nat)) (1000000 : Nat))) = (false)) → False))) ∧ (qallThick11 st pl ho ge nfl ffl n y2 y3))) ∧ (((decide (Int.ofNat y3 < ho)) = (false)) → ((((Nat.beq y2 y2 && (Nat.beq y3 y3 && Nat.ble (y2 + (1 : Nat)) (1000000 : Nat))) = (true)) → ((qallThick7 st pl ho ge nfl ffl n y1 y2) ∨ (∃ y4 : Nat, ((((1 : Nat) ≤ y4 ∧ y4 ≤ Int.toNat pl) ∧ Int.toNat pl - y4 < Int.toNat pl - y1) ∧ (((true = true) ∧ ((qallThick2 st pl ho ge) ∧ ((qallThick4 nfl ffl) ∧ ((((IntKind.i64) = (IntKind.i64)) ∧ ((n) = (n))) ∧ ((((1, 1) ∈ ([(3, 6), (1, 1)] : List (Nat × Nat))) ∧ ((Prod.snd ((1 : Nat), (0 : Nat))) = (Prod.snd ((1 : Nat), (0 : Nat))))) ∧ ((((3, 6) ∈ ([(3, 6), (1, 1)] : List (Nat × Nat))) ∧ ((y4) = (y2 + (1 : Nat)))) ∧ (qallThick16 pl y2 y4))))))) ∧ (((((47 : TypeId)) = ((47 : TypeId))) ∧ ((((4 : Nat)) = ((4 : Nat))) ∧ (qallThick2 st pl ho ge))) ∧ (((((22 : TypeId)) = ((22 : TypeId))) ∧ ((([Sh.list [Sh.int IntKind.i64]]) = ([Sh.list [Sh.int IntKind.i64]])) ∧ (((y4) = (y2 + (1 : Nat))) ∧ (∀ y5 : Nat, (y5 < y4 → (∀ y6 : Nat, (y6 < List.length [Sh.list [Sh.int IntKind.i64]] → ((thickRow st pl ho ge ffl n y5) = (bif Nat.blt y5 y2 then thickRow st pl ho ge ffl n y5 else FD.list [Sh.int IntKind.i64] y3 fun (k x : Nat) => FD.int IntKind.i64 (thickV st pl ho ge (↑y2 : Int) (↑k : Int) ffl n)))))))))) ∧ True))))))) ∧ (((Nat.beq y2 y2 && (Nat.beq y3 y3 && Nat.ble (y2 + (1 : Nat)) (1000000 : Nat))) = (false)) → False)))))))))
abbrev qallThick17 (st : Int) (pl : Int) (ho : Int) (ge : Int) (nfl : Nat) (ffl : Nat → Nat → FD) (n : Int) (y1 : Nat) (y2 : Nat) (y3 : Nat) : Prop := ((true = true) ∧ ((qallThick2 st pl ho ge) ∧ ((qallThick4 nfl ffl) ∧ ((((IntKind.i64) = (IntKind.i64)) ∧ ((n) = (n))) ∧ ((((1, 1) ∈ ([(1, 1)] : List (Nat × Nat))) ∧ ((Prod.snd ((1 : Nat), (0 : Nat))) = (Prod.snd ((1 : Nat), (0 : Nat))))) ∧ (False ∧ ((((IntKind.i64) = (IntKind.i64)) ∧ ((Int.ofNat y2) = (Int.ofNat y1))) ∧ (False ∧ (qallThick5 pl ho y1 y2 y3)))))))))
abbrev qallThick1 (st : Int) (pl : Int) (ho : Int) (ge : Int) (nfl : Nat) (ffl : Nat → Nat → FD) (n : Int) : Prop := (∃ y0 : Nat, (((∃ y1 : Nat, ((((y1) = ((0 : Nat))) ∧ True) ∧ (((true = true) ∧ ((qallThick2 st pl ho ge) ∧ ((qallThick4 nfl ffl) ∧ ((((IntKind.i64) = (IntKind.i64)) ∧ ((n) = (n))) ∧ ((((1, 1) ∈ ([(1, 1)] : List (Nat × Nat))) ∧ ((Prod.snd ((1 : Nat), (0 : Nat))) = (Prod.snd ((1 : Nat), (0 : Nat))))) ∧ (((((0 : Nat)) = ((0 : Nat))) ∧ (((0 : Nat)) = ((0 : Nat)))) ∧ ((((IntKind.i64) = (IntKind.i64)) ∧ ((pl) = (pl))) ∧ ((((IntKind.i64) = (IntKind.i64)) ∧ ((Int.ofNat y1) = ((0 : Int)))) ∧ True)))))))) ∧ (((((47 : TypeId)) = ((47 : Nat))) ∧ ((((4 : Nat)) = (List.length [Sc.int IntKind.i64 (Ix.tm st), Sc.int IntKind.i64 (Ix.tm pl), Sc.int IntKind.i64 (Ix.tm ho), Sc.int IntKind.i64 (Ix.tm ge)])) ∧ (qallThick2 st pl ho ge))) ∧ True)))) ∨ (∃ y1 : Nat, ((((1 : Nat) ≤ y1 ∧ y1 ≤ Int.toNat pl) ∧ True) ∧ (((true = true) ∧ ((qallThick2 st pl ho ge) ∧ ((qallThick4 nfl ffl) ∧ ((((IntKind.i64) = (IntKind.i64)) ∧ ((n) = (n))) ∧ ((((1, 1) ∈ ([(1, 1)] : List (Nat × Nat))) ∧ ((Prod.snd ((1 : Nat), (0 : Nat))) = (Prod.snd ((1 : Nat), (0 : Nat))))) ∧ (False ∧ ((((IntKind.i64) = (IntKind.i64)) ∧ ((pl) = (pl))) ∧ ((((IntKind.i64) = (IntKind.i64)) ∧ ((Int.ofNat y1) = ((0 : Int)))) ∧ True)))))))) ∧ (((((47 : TypeId)) = ((47 : Nat))) ∧ ((((4 : Nat)) = (List.length [Sc.int IntKind.i64 (Ix.tm st), Sc.int IntKind.i64 (Ix.tm pl), Sc.int IntKind.i64 (Ix.tm ho), Sc.int IntKind.i64 (Ix.tm ge)])) ∧ (qallThick2 st pl ho ge))) ∧ (False ∧ True)))))) ∧ ((∀ y1 : Nat, (((y1) = ((0 : Nat))) → ((((decide (Int.ofNat y1 < pl)) = (true)) → (∃ y2 : Nat, (((∃ y3 : Nat, ((((((y2) = ((0 : Nat))) ∧ y2 < Int.toNat pl) ∧ ((y3) = ((0 : Nat)))) ∧ True) ∧ (((true = true) ∧ ((qallThick2 st pl ho ge) ∧ ((qallThick4 nfl ffl) ∧ ((((IntKind.i64) = (IntKind.i64)) ∧ ((n) = (n))) ∧ ((((1, 1) ∈ ([(1, 1)] : List (Nat × Nat))) ∧ ((Prod.snd ((1 : Nat), (0 : Nat))) = (Prod.snd ((1 : Nat), (0 : Nat))))) ∧ (((((0 : Nat)) = ((0 : Nat))) ∧ (((0 : Nat)) = ((0 : Nat)))) ∧ ((((IntKind.i64) = (IntKind.i64)) ∧ ((Int.ofNat y2) = (Int.ofNat y1))) ∧ (((((0 : Nat)) = ((0 : Nat))) ∧ (((0 : Nat)) = ((0 : Nat)))) ∧ (qallThick5 pl ho y1 y2 y3))))))))) ∧ (((((47 : TypeId)) = ((47 : TypeId))) ∧ ((((4 : Nat)) = ((4 : Nat))) ∧ (qallThick2 st pl ho ge))) ∧ True)))) ∨ ((∃ y3 : Nat, ((((((y2) = ((0 : Nat))) ∧ y2 < Int.toNat pl) ∧ ((1 : Nat) ≤ y3 ∧ y3 ≤ Int.toNat ho)) ∧ True) ∧ (((true = true) ∧ ((qallThick2 st pl ho ge) ∧ ((qallThick4 nfl ffl) ∧ ((((IntKind.i64) = (IntKind.i64)) ∧ ((n) = (n))) ∧ ((((1, 1) ∈ ([(1, 1)] : List (Nat × Nat))) ∧ ((Prod.snd ((1 : Nat), (0 : Nat))) = (Prod.snd ((1 : Nat), (0 : Nat))))) ∧ (((((0 : Nat)) = ((0 : Nat))) ∧ (((0 : Nat)) = ((0 : Nat)))) ∧ ((((IntKind.i64) = (IntKind.i64)) ∧ ((Int.ofNat y2) = (Int.ofNat y1))) ∧ (False ∧ (qallThick5 pl ho y1 y2 y3))))))))) ∧ (((((47 : TypeId)) = ((47 : TypeId))) ∧ ((((4 : Nat)) = ((4 : Nat))) ∧ (qallThick2 st pl ho ge))) ∧ (False ∧ True))))) ∨ ((∃ y3 : Nat, (((((1 : Nat) ≤ y2 ∧ y2 < Int.toNat pl) ∧ ((y3) = ((0 : Nat)))) ∧ True) ∧ ((qallThick15 st pl ho ge nfl ffl n y1 y2 y3) ∧ (((((47 : TypeId)) = ((47 : TypeId))) ∧ ((((4 : Nat)) = ((4 : Nat))) ∧ (qallThick2 st pl ho ge))) ∧ (False ∧ True))))) ∨ (∃ y3 : Nat, (((((1 : Nat) ≤ y2 ∧ y2 < Int.toNat pl) ∧ ((1 : Nat) ≤ y3 ∧ y3 ≤ Int.toNat ho)) ∧ True) ∧ ((qallThick17 st pl ho ge nfl ffl n y1 y2 y3) ∧ (((((47 : TypeId)) = ((47 : TypeId))) ∧ ((((4 : Nat)) = ((4 : Nat))) ∧ (qallThick2 st pl ho ge))) ∧ (False ∧ (False ∧ True))))))))) ∧ (qallThick0 st pl ho ge nfl ffl n y1 y2)))) ∧ (((decide (Int.ofNat y1 < pl)) = (false)) → (((if allE st pl ho ge nfl ffl n = (0 : Int) then Int.toNat pl else (0 : Nat)) = ((0 : Nat))) ∧ ((((IntKind.i64) = (IntKind.i64)) ∧ ((allE st pl ho ge nfl ffl n) = ((0 : Int)))) ∧ True)))))) ∧ (∀ y1 : Nat, (((1 : Nat) ≤ y1 ∧ y1 ≤ Int.toNat pl) → ((((decide (Int.ofNat y1 < pl)) = (true)) → (∃ y2 : Nat, (((∃ y3 : Nat, ((((((y2) = ((0 : Nat))) ∧ y2 < Int.toNat pl) ∧ ((y3) = ((0 : Nat)))) ∧ True) ∧ ((qallThick15 st pl ho ge nfl ffl n y1 y2 y3) ∧ (((((47 : TypeId)) = ((47 : TypeId))) ∧ ((((4 : Nat)) = ((4 : Nat))) ∧ (qallThick2 st pl ho ge))) ∧ True)))) ∨ ((∃ y3 : Nat, ((((((y2) = ((0 : Nat))) ∧ y2 < Int.toNat pl) ∧ ((1 : Nat) ≤ y3 ∧ y3 ≤ Int.toNat ho)) ∧ True) ∧ ((qallThick17 st pl ho ge nfl ffl n y1 y2 y3) ∧ (((((47 : TypeId)) = ((47 : TypeId))) ∧ ((((4 : Nat)) = ((4 : Nat))) ∧ (qallThick2 st pl ho ge))) ∧ (False ∧ True))))) ∨ ((∃ y3 : Nat, (((((1 : Nat) ≤ y2 ∧ y2 < Int.toNat pl) ∧ ((y3) = ((0 : Nat)))) ∧ True) ∧ (((true = true) ∧ ((qallThick2 st pl ho ge) ∧ ((qallThick4 nfl ffl) ∧ ((((IntKind.i64) = (IntKind.i64)) ∧ ((n) = (n))) ∧ ((((1, 1) ∈ ([(3, 3), (1, 1)] : List (Nat × Nat))) ∧ ((Prod.snd ((1 : Nat), (0 : Nat))) = (Prod.snd ((1 : Nat), (0 : Nat))))) ∧ ((((3, 3) ∈ ([(3, 3), (1, 1)] : List (Nat × Nat))) ∧ ((y2) = (y1))) ∧ ((((IntKind.i64) = (IntKind.i64)) ∧ ((Int.ofNat y2) = (Int.ofNat y1))) ∧ (((((0 : Nat)) = ((0 : Nat))) ∧ (((0 : Nat)) = ((0 : Nat)))) ∧ (qallThick5 pl ho y1 y2 y3))))))))) ∧ (((((47 : TypeId)) = ((47 : TypeId))) ∧ ((((4 : Nat)) = ((4 : Nat))) ∧ (qallThick2 st pl ho ge))) ∧ (((((22 : TypeId)) = ((22 : TypeId))) ∧ ((([Sh.list [Sh.int IntKind.i64]]) = ([Sh.list [Sh.int IntKind.i64]])) ∧ (((y2) = (y1)) ∧ (∀ y4 : Nat, (y4 < y2 → (∀ y5 : Nat, (y5 < List.length [Sh.list [Sh.int IntKind.i64]] → ((thickRow st pl ho ge ffl n y4) = (thickRow st pl ho ge ffl n y4))))))))) ∧ True))))) ∨ (∃ y3 : Nat, (((((1 : Nat) ≤ y2 ∧ y2 < Int.toNat pl) ∧ ((1 : Nat) ≤ y3 ∧ y3 ≤ Int.toNat ho)) ∧ True) ∧ (((true = true) ∧ ((qallThick2 st pl ho ge) ∧ ((qallThick4 nfl ffl) ∧ ((((IntKind.i64) = (IntKind.i64)) ∧ ((n) = (n))) ∧ ((((1, 1) ∈ ([(3, 3), (1, 1)] : List (Nat × Nat))) ∧ ((Prod.snd ((1 : Nat), (0 : Nat))) = (Prod.snd ((1 : Nat), (0 : Nat))))) ∧ ((((3, 3) ∈ ([(3, 3), (1, 1)] : List (Nat × Nat))) ∧ ((y2) = (y1))) ∧ ((((IntKind.i64) = (IntKind.i64)) ∧ ((Int.ofNat y2) = (Int.ofNat y1))) ∧ (False ∧ (qallThick5 pl ho y1 y2 y3))))))))) ∧ (((((47 : TypeId)) = ((47 : TypeId))) ∧ ((((4 : Nat)) = ((4 : Nat))) ∧ (qallThick2 st pl ho ge))) ∧ (((((22 : TypeId)) = ((22 : TypeId))) ∧ ((([Sh.list [Sh.int IntKind.i64]]) = ([Sh.list [Sh.int IntKind.i64]])) ∧ (((y2) = (y1)) ∧ (∀ y4 : Nat, (y4 < y2 → (∀ y5 : Nat, (y5 < List.length [Sh.list [Sh.int IntKind.i64]] → ((thickRow st pl ho ge ffl n y4) = (thickRow st pl ho ge ffl n y4))))))))) ∧ (False ∧ True))))))))) ∧ (qallThick0 st pl ho ge nfl ffl n y1 y2)))) ∧ (((decide (Int.ofNat y1 < pl)) = (false)) → (((1 : Nat) ≤ (3 : Nat) ∧ ((([Sh.list [Sh.int IntKind.i64]]) = ([Sh.list [Sh.int IntKind.i64]])) ∧ (((y1) = (y1)) ∧ (((if allE st pl ho ge nfl ffl n = (0 : Int) then Int.toNat pl else (0 : Nat)) = (y1)) ∧ (∀ y2 : Nat, (y2 < y1 → (∀ y3 : Nat, (y3 < List.length [Sh.list [Sh.int IntKind.i64]] → ((thickRow st pl ho ge ffl n y2) = (thickRow st pl ho ge ffl n y2)))))))))) ∧ ((((IntKind.i64) = (IntKind.i64)) ∧ ((allE st pl ho ge nfl ffl n) = ((0 : Int)))) ∧ True)))))))))
theorem allThick_ok : FnOk (mkR smI gs4) Try.prog η0 52 (FI.of Try.f52 false) allThickS (.tup [.one (.list [.list [.int .i64]]), .one (.int .i64)]) allThickC allThickR := by
  refine fnOk_of0 smI_ok gs4_ok Try.fok52 (fun fds => match fds with | [.int _ st, .int _ pl, .int _ ho, .int _ ge, .list _ nfl ffl, .int _ n] => allThickI st pl ho ge nfl ffl n | _ => alts fun _ => []) ?_
  intro fds hf hc
  obtain ⟨st, ds0, rfl, hf1⟩ := hf.int
  obtain ⟨pl, ds1, rfl, hf2⟩ := hf1.int
  obtain ⟨ho, ds2, rfl, hf3⟩ := hf2.int
  obtain ⟨ge, ds3, rfl, hf4⟩ := hf3.int
  obtain ⟨nfl, ffl, ds4, rfl, gfl, hf5⟩ := hf4.list
  obtain ⟨n, ds5, rfl, hf6⟩ := hf5.int
  obtain rfl := hf6.nil
  have hc : (true) = true := hc
  have hvc : (vcF smI gs4 (FI.of Try.f52 false) allThickS (.tup [.one (.list [.list [.int .i64]]), .one (.int .i64)]) (allThickI st pl ho ge nfl ffl n) noR [.int .i64 st, .int .i64 pl, .int .i64 ho, .int .i64 ge, .list [.list [.int .i64]] nfl ffl, .int .i64 n] (allThickR [.int .i64 st, .int .i64 pl, .int .i64 ho, .int .i64 ge, .list [.list [.int .i64]] nfl ffl, .int .i64 n])) =
    ((true = true) ∧ (((true = true) → (((true = true) → ((((decide (flowE st pl ho ge nfl ffl = (0 : Int))) = (true)) → ((((decide (stepsE n = (0 : Int))) = (true)) → (qallThick1 st pl ho ge nfl ffl n)) ∧ (((decide (stepsE n = (0 : Int))) = (false)) → ((((decide (stepsE n = (0 : Int))) = (false)) → (((if allE st pl ho ge nfl ffl n = (0 : Int) then Int.toNat pl else (0 : Nat)) = ((0 : Nat))) ∧ ((((IntKind.i64) = (IntKind.i64)) ∧ ((allE st pl ho ge nfl ffl n) = (stepsE n))) ∧ True))) ∧ (((decide (stepsE n = (0 : Int))) = (true)) → (qallThick1 st pl ho ge nfl ffl n)))))) ∧ (((decide (flowE st pl ho ge nfl ffl = (0 : Int))) = (false)) → ((((decide (flowE st pl ho ge nfl ffl = (0 : Int))) = (false)) → (((if allE st pl ho ge nfl ffl n = (0 : Int) then Int.toNat pl else (0 : Nat)) = ((0 : Nat))) ∧ ((((IntKind.i64) = (IntKind.i64)) ∧ ((allE st pl ho ge nfl ffl n) = (flowE st pl ho ge nfl ffl))) ∧ True))) ∧ (((decide (flowE st pl ho ge nfl ffl = (0 : Int))) = (true)) → (qallThick1 st pl ho ge nfl ffl n)))))) ∧ ((true = false) → False))) ∧ ((true = false) → False))) := by kernel_rfl
  refine hvc.mpr ?_
  clear hvc
  dsimp only [qallThick2, qallThick3, qallThick4, qallThick5, qallThick6, qallThick8, qallThick9, qallThick11, qallThick12, qallThick13, qallThick14, qallThick10, qallThick15, qallThick16, qallThick7, qallThick0, qallThick17, qallThick1]
  by_cases h1 : flowE st pl ho ge nfl ffl = 0
  · by_cases h2 : stepsE n = 0
    · have hE : allE st pl ho ge nfl ffl n = 0 := by simp [allE, h1, h2]
      obtain ⟨e1, e2, e3, e4⟩ := flowE_ok h1
      have e5 := rackE_ok e1
      obtain ⟨S, P, H, G, ⟨rfl, rfl, rfl, rfl⟩, c1, c2, c3, c4, c5, c6, c7, c8⟩ := rack_nat e5
      have hn : 0 ≤ n ∧ n ≤ 1000000 := by
        unfold stepsE at h2
        split at h2
        · assumption
        · omega
      have hth : ∀ z k : Nat, z < P → k < H → thickC [.int .i64 S, .int .i64 P, .int .i64 H, .int .i64 G, .int .i64 z, .int .i64 k, .list [.list [.int .i64]] nfl ffl, .int .i64 n] = true := fun z k hz hk => by
        simp only [thickC, e5, partB, e3, Bool.true_and, Bool.and_eq_true, decide_eq_true_eq]
        omega
      simp [h1, h2, hE]
      have w1 : ∀ k : Nat, k < 100 → ((k + 1 : Nat) : Int) = IntKind.i64.wrap ((k : Int) + 1) := fun k hk => by
        rw [wrap_id (by omega) (by omega)]
        rfl
      refine ⟨fun hP => ⟨0, ⟨⟨rfl, by omega⟩, rfl⟩, fun k _ _ hk => ⟨fun hk1 => ⟨fun _ => ⟨1, ⟨⟨⟨rfl, by omega⟩, by omega, by omega⟩, by omega⟩, ⟨rfl, by subst hk; exact w1 0 (by omega)⟩, rfl, fun y hy => ?_⟩, hth 0 k (by omega) (by omega)⟩, by omega⟩, fun k _ _ hk hk' => ⟨fun hk1 => ⟨fun _ => ⟨fun _ => ⟨k + 1, ⟨⟨⟨rfl, by omega⟩, by omega, by omega⟩, by omega⟩, ⟨rfl, w1 k (by omega)⟩, rfl, fun y hy => bif_app (f := fun y => FD.int IntKind.i64 (thickV S P H G (0 : Nat) y ffl n)) hy rfl⟩, by omega⟩, hth 0 k (by omega) (by omega)⟩, fun hkH => ⟨1, ⟨⟨by omega, by omega⟩, by omega⟩, ⟨rfl, w1 0 (by omega)⟩, rfl, fun y hy => ?_⟩⟩, fun k h0 => by omega, fun k h0 => by omega⟩, fun x hx1 hx2 => ⟨fun hx => ⟨x, ⟨0, ⟨⟨by omega, by omega⟩, rfl⟩, ⟨rfl, rfl, rfl⟩, rfl⟩, fun k h0 => by omega, fun k h0 => by omega, fun k _ _ hk => ⟨fun hk1 => ⟨fun _ => ⟨1, ⟨⟨⟨by omega, by omega⟩, by omega, by omega⟩, by omega⟩, ⟨rfl, by subst hk; exact w1 0 (by omega)⟩, rfl, fun y hy => ?_⟩, hth x k (by omega) (by omega)⟩, by omega⟩, fun k _ _ hk hk' => ⟨fun hk1 => ⟨fun _ => ⟨fun _ => ⟨k + 1, ⟨⟨⟨by omega, by omega⟩, by omega, by omega⟩, by omega⟩, ⟨rfl, w1 k (by omega)⟩, rfl, fun y hy => bif_app (f := fun y => FD.int IntKind.i64 (thickV S P H G x y ffl n)) hy rfl⟩, by omega⟩, hth x k (by omega) (by omega)⟩, fun hkH => ⟨fun _ => ⟨x + 1, ⟨⟨by omega, by omega⟩, by omega⟩, ⟨rfl, w1 x (by omega)⟩, rfl, fun y hy => bif_app (f := thickRow S P H G ffl n) hy ?_⟩, by omega⟩⟩⟩, by omega⟩⟩
      · obtain rfl : y = 0 := by omega
        subst hk; rfl
      · obtain rfl : y = 0 := by omega
        obtain rfl : k = H := by omega
        rfl
      · obtain rfl : y = 0 := by omega
        subst hk; rfl
      · obtain rfl : k = H := by omega
        rfl
    · simp [h1, h2, allE]
  · simp [h1, allE]
end
end Go.Ex


namespace Go.Ex
open Go Go.Proofs Go.RowKit
noncomputable section
set_option maxRecDepth 1000000

def smJ : T Smf := (T.set smI 50 (some (gFd ListsS (.one .bool) ListsC ListsR)))
theorem smJ_ok : Tab SmOk smJ := (Tab.set smI_ok (by kernel_rfl) (smOk_of smI_ok gs4_ok Lists_ok rfl))
def gs5 : G2 := (G2.setG gs4 52 (gFd allThickS (.tup [.one (.list [.list [.int .i64]]), .one (.int .i64)]) allThickC allThickR))
theorem gs5_ok : G2Ok gs5 := (G2Ok.setG gs4_ok (by kernel_rfl) (gsOk_of smI_ok gs4_ok allThick_ok))
def refPlaceS : List PT := [.agg [.int .i64, .int .i64, .int .i64, .int .i64], .agg [.int .i64, .int .i64], .one (.int .i64)]
def refPlaceC : List FD → Bool
  | [.int _ st, .int _ pl, .int _ ho, .int _ ge, .int _ p, .int _ h, .int _ n] => (rackB st pl ho ge && partB pl ho p h) && (decide (0 ≤ n) && decide (n ≤ 1000000000))
  | _ => false
def refPlaceR : List FD → List FD
  | [.int _ st, .int _ pl, .int _ ho, .int _ ge, .int _ p, .int _ h, .int _ n] => [.int .i64 (statI st pl p n), .int .i64 (sideI ho ge h n)]
  | _ => []
def refPlaceI (_st : Int) (_pl : Int) (_ho : Int) (_ge : Int) (_p : Int) (_h : Int) (_n : Int) : Nat → AFam := alts (fun _ => [])
theorem refPlace_ok : FnOk (mkR smJ gs5) Try.prog η0 54 (FI.of Try.f54 true) refPlaceS (.agg [.int .i64, .int .i64]) refPlaceC refPlaceR := by
  refine fnOk_of0 smJ_ok gs5_ok Try.fok54 (fun fds => match fds with | [.int _ st, .int _ pl, .int _ ho, .int _ ge, .int _ p, .int _ h, .int _ n] => refPlaceI st pl ho ge p h n | _ => alts fun _ => []) ?_
  intro fds hf hc
  obtain ⟨st, ds0, rfl, hf1⟩ := hf.int
  obtain ⟨pl, ds1, rfl, hf2⟩ := hf1.int
  obtain ⟨ho, ds2, rfl, hf3⟩ := hf2.int
  obtain ⟨ge, ds3, rfl, hf4⟩ := hf3.int
  obtain ⟨p, ds4, rfl, hf5⟩ := hf4.int
  obtain ⟨h, ds5, rfl, hf6⟩ := hf5.int
  obtain ⟨n, ds6, rfl, hf7⟩ := hf6.int
  obtain rfl := hf7.nil
  have hc : ((rackB st pl ho ge && partB pl ho p h) && (decide (0 ≤ n) && decide (n ≤ 1000000000))) = true := hc
  have hvc : (vcF smJ gs5 (FI.of Try.f54 true) refPlaceS (.agg [.int .i64, .int .i64]) (refPlaceI st pl ho ge p h n) noR [.int .i64 st, .int .i64 pl, .int .i64 ho, .int .i64 ge, .int .i64 p, .int .i64 h, .int .i64 n] (refPlaceR [.int .i64 st, .int .i64 pl, .int .i64 ho, .int .i64 ge, .int .i64 p, .int .i64 h, .int .i64 n])) =
    ((true = true) ∧ ((((!decide (pl = (0 : Int))) = (true)) → ((((ModC [FD.int IntKind.i64 (IntKind.wrap IntKind.i64 (n + IntKind.wrap IntKind.i64 (p * IntKind.wrap IntKind.i64 (Int.tdiv st pl)))), FD.int IntKind.i64 st]) = (true)) → ((((ModC [FD.int IntKind.i64 (IntKind.wrap IntKind.i64 (h + IntKind.wrap IntKind.i64 (ge * n))), FD.int IntKind.i64 ho]) = (true)) → ((((IntKind.i64) = (IntKind.i64)) ∧ ((statI st pl p n) = (if Int.tmod (IntKind.wrap IntKind.i64 (n + IntKind.wrap IntKind.i64 (p * IntKind.wrap IntKind.i64 (Int.tdiv st pl)))) st < (0 : Int) then IntKind.wrap IntKind.i64 (Int.tmod (IntKind.wrap IntKind.i64 (n + IntKind.wrap IntKind.i64 (p * IntKind.wrap IntKind.i64 (Int.tdiv st pl)))) st + st) else Int.tmod (IntKind.wrap IntKind.i64 (n + IntKind.wrap IntKind.i64 (p * IntKind.wrap IntKind.i64 (Int.tdiv st pl)))) st))) ∧ ((((IntKind.i64) = (IntKind.i64)) ∧ ((sideI ho ge h n) = (if Int.tmod (IntKind.wrap IntKind.i64 (h + IntKind.wrap IntKind.i64 (ge * n))) ho < (0 : Int) then IntKind.wrap IntKind.i64 (Int.tmod (IntKind.wrap IntKind.i64 (h + IntKind.wrap IntKind.i64 (ge * n))) ho + ho) else Int.tmod (IntKind.wrap IntKind.i64 (h + IntKind.wrap IntKind.i64 (ge * n))) ho))) ∧ True))) ∧ (((ModC [FD.int IntKind.i64 (IntKind.wrap IntKind.i64 (h + IntKind.wrap IntKind.i64 (ge * n))), FD.int IntKind.i64 ho]) = (false)) → False))) ∧ (((ModC [FD.int IntKind.i64 (IntKind.wrap IntKind.i64 (n + IntKind.wrap IntKind.i64 (p * IntKind.wrap IntKind.i64 (Int.tdiv st pl)))), FD.int IntKind.i64 st]) = (false)) → False))) ∧ (((!decide (pl = (0 : Int))) = (false)) → False))) := by kernel_rfl
  refine hvc.mpr ?_
  clear hvc
  simp only [Bool.and_eq_true, decide_eq_true_eq] at hc
  obtain ⟨⟨hrk, hpt⟩, hn0, hn1⟩ := hc
  obtain ⟨S, P, H, G, ⟨rfl, rfl, rfl, rfl⟩, c1, c2, c3, c4, c5, c6, c7, c8⟩ := rack_nat hrk
  obtain ⟨Q, K, ⟨rfl, rfl⟩, c9, c10⟩ := part_nat hpt
  obtain ⟨n, rfl⟩ := Int.eq_ofNat_of_zero_le hn0
  obtain ⟨a1, a2⟩ := at_nice S P H G Q K n (by omega) (by omega) (by omega) (by omega) (by omega) (by omega)
  have b1 : Int.tmod (IntKind.i64.wrap ((n : Int) + IntKind.i64.wrap ((Q : Int) * IntKind.i64.wrap ((S : Int).tdiv P)))) S = (((n + Q * (S / P)) % S : Nat) : Int) := a1
  have b2 : Int.tmod (IntKind.i64.wrap ((K : Int) + IntKind.i64.wrap ((G : Int) * n))) H = (((K + G * n) % H : Nat) : Int) := a2
  have z1 : ¬ S = 0 := by omega
  have z2 : ¬ P = 0 := by omega
  have z3 : ¬ H = 0 := by omega
  have d1 : ¬ (((n + Q * (S / P)) % S : Nat) : Int) < 0 := by omega
  have d2 : ¬ (((K + G * n) % H : Nat) : Int) < 0 := by omega
  rw [Int.tdiv_eq_ediv_of_nonneg (by omega)] at b1
  have m1 : ∀ a : Int, ModC [.int .i64 a, .int .i64 (S : Int)] = true := fun a => by
    simp only [ModC, Bool.not_eq_true', decide_eq_false_iff_not]; omega
  have m2 : ∀ a : Int, ModC [.int .i64 a, .int .i64 (H : Int)] = true := fun a => by
    simp only [ModC, Bool.not_eq_true', decide_eq_false_iff_not]; omega
  simp [z1, z2, z3, statI, sideI, wrapI, b1, b2, -Int.natCast_emod, d1, d2, m1, m2]
def smK : T Smf := (T.set smJ 54 (some (gFd refPlaceS (.agg [.int .i64, .int .i64]) refPlaceC refPlaceR)))
theorem smK_ok : Tab SmOk smK := (Tab.set smJ_ok (by kernel_rfl) (smOk_of smJ_ok gs5_ok refPlace_ok rfl))
theorem placesL_succ (S P G Q K n : Nat) : placesL S P G Q K (n + 1) = placesL S P G Q K n ++ [(n + Q * (S / P), K + G * n)] := by
  simp [placesL, List.range_succ]
end
end Go.Ex

