/-
 Contracts of small functions of the rack.
-/
import Derived.Test.YtdpabnfcfakjeaaExK
import Derived.RangeFuncNested
import Derived.RangeFuncBound
import Derived.RangeFuncCalls
import Derived.RangeFuncLeaves
import Derived.Shelf.Abstract
import Derived.Shelf.RegionOpen
import Derived.WalkKit
import Derived.OwnWalkIn
import Derived.TacticsInMore
import Derived.LoopNIn
import Derived.LoopIn
/-
 The iterator over the places of a part.
-/
/-
 Contracts: the period; the thickness of a part.
-/

namespace Go.Ex
open Go Go.Proofs Go.RowKit
noncomputable section

theorem aQ {n : Int} (h1 : -9223372036854775808 ≤ n) (h2 : n ≤ 9223372036854775807) : IntKind.i64.wrap n = n := by
 have := nA n
 unfold wr at this
 rw [this]; omega

def IH (f g : Nat → Nat → FD) : Nat → Int
 | 0 => 0
 | x + 1 => IntKind.i64.wrap (IH f g x + IntKind.i64.wrap ((f x 0).i * (g x 0).i))
def II (f : Nat → Nat → FD) : Nat → Int
 | 0 => 0
 | x + 1 => IntKind.i64.wrap (II f x + (f x 0).i)

def FA : List PT := [.one (.int .i64), .one (.int .i64), .one (.int .i64)]
def NH : List FD → Bool
 | [.int _ _, .int _ _, .int _ _] => true
 | _ => false
def FB : List FD → List FD
 | [.int _ a, .int _ b, .int _ c] => [.bool (decide (b ≤ a) && decide (a ≤ c))]
 | _ => []
def NI (_a : Int) (_b : Int) (_c : Int) : Nat → b9 := aZ (fun _ => [])
theorem O2 : dA (mkR sm0 gs0) Try.prog η0 88 (FI.of Try.f88 true) FA (.one .bool) NH FB := by
 refine aM eW dH Try.fok88 (fun fds => match fds with | [.int _ a, .int _ b, .int _ c] => NI a b c | _ => aZ fun _ => []) ?_
 intro fds hf hc
 obtain ⟨a, ds0, rfl, hf1⟩ := hf.int
 obtain ⟨b, ds1, rfl, hf2⟩ := hf1.int
 obtain ⟨c, ds2, rfl, hf3⟩ := hf2.int
 obtain rfl := hf3.nil
 have hc : (true) = true := hc
 have hvc : (vcF sm0 gs0 (FI.of Try.f88 true) FA (.one .bool) (NI a b c) noR [.int .i64 a, .int .i64 b, .int .i64 c] (FB [.int .i64 a, .int .i64 b, .int .i64 c])) =
  ((true = true) ∧ ((((decide (a < b)) = (true)) → ((decide (b ≤ a) && decide (a ≤ c)) = (false))) ∧ (((decide (a < b)) = (false)) → ((decide (b ≤ a) && decide (a ≤ c)) = (!decide (c < a)))))) := by kernel_rfl
 refine hvc.mpr ?_
 clear hvc
 clear hf hf1 hf2 hf3
 simp
 exact ⟨by omega, fun h => by rw [decide_eq_true h]; simp [← decide_not]⟩

def WT : List PT := [.one (.list [.int .i64]), .one (.list [.int .i64])]
def YY : List FD → Bool
 | [.list _ na _, .list _ nb _] => Nat.ble na nb
 | _ => false
def WU : List FD → List FD
 | [.list _ na fa, .list _ _ fb] => [.int .i64 (IH fa fb na)]
 | _ => []
def YZ (na : Nat) (fa : Nat → Nat → FD) (nb : Nat) (fb : Nat → Nat → FD) : Nat → b9 := aZ (fun _ => [{ι := Nat, G := fun x => x ≤ na, μ := fun x => na - x, tl := fun x => [(1, .one (.fz (.root 0 1) (.list [.int .i64] nb fb))), (5, .one (.int .i64 (.tm (IH fa fb x)))), (8, .one (.fz (.root 0 0) (.list [.int .i64] na fa))), (9, .one (.int .i64 (.tm (Int.ofNat na)))), (10, .one (.int .i64 (.tm (Int.ofNat x))))], bl := fun _ => [], nx := 1}])
theorem WV : dA (mkR sm0 gs0) Try.prog η0 120 (FI.of Try.f120 true) WT (.one (.int .i64)) YY WU := by
 refine aM eW dH Try.fok120 (fun fds => match fds with | [.list _ na fa, .list _ nb fb] => YZ na fa nb fb | _ => aZ fun _ => []) ?_
 intro fds hf hc
 obtain ⟨na, fa, ds0, rfl, ga, hf1⟩ := hf.list
 obtain ⟨nb, fb, ds1, rfl, gb, hf2⟩ := hf1.list
 obtain rfl := hf2.nil
 have hc : (Nat.ble na nb) = true := hc
 have hvc : (vcF sm0 gs0 (FI.of Try.f120 true) WT (.one (.int .i64)) (YZ na fa nb fb) noR [.list [.int .i64] na fa, .list [.int .i64] nb fb] (WU [.list [.int .i64] na fa, .list [.int .i64] nb fb])) =
  ((true = true) ∧ (∃ y0 : Nat, ((∃ y1 : Nat, ((y1 ≤ na ∧ True) ∧ (((true = true) ∧ ((((Ref.root (0) (1)) = (Ref.root (0) (1))) ∧ (((FD.list [Sh.int IntKind.i64] nb fb) = (FD.list [Sh.int IntKind.i64] nb fb)) ∧ (true = true))) ∧ ((((IntKind.i64) = (IntKind.i64)) ∧ ((IH fa fb y1) = ((0 : Int)))) ∧ ((((Ref.root (0) (0)) = (Ref.root (0) (0))) ∧ (((FD.list [Sh.int IntKind.i64] na fa) = (FD.list [Sh.int IntKind.i64] na fa)) ∧ (true = true))) ∧ ((((IntKind.i64) = (IntKind.i64)) ∧ ((Int.ofNat na) = (Int.ofNat na))) ∧ ((((IntKind.i64) = (IntKind.i64)) ∧ ((Int.ofNat y1) = ((0 : Int)))) ∧ True)))))) ∧ True))) ∧ (∀ y1 : Nat, (y1 ≤ na → ((((decide (Int.ofNat y1 < Int.ofNat na)) = (true)) → ((((decide ((0 : Int) ≤ Int.ofNat y1) && decide (Int.ofNat y1 < (↑na : Int))) = (true)) → ((((decide ((0 : Int) ≤ Int.ofNat y1) && decide (Int.ofNat y1 < (↑nb : Int))) = (true)) → (∃ y2 : Nat, ((y2 ≤ na ∧ na - y2 < na - y1) ∧ (((true = true) ∧ ((((Ref.root (0) (1)) = (Ref.root (0) (1))) ∧ (((FD.list [Sh.int IntKind.i64] nb fb) = (FD.list [Sh.int IntKind.i64] nb fb)) ∧ (true = true))) ∧ ((((IntKind.i64) = (IntKind.i64)) ∧ ((IH fa fb y2) = (IntKind.wrap IntKind.i64 (IH fa fb y1 + IntKind.wrap IntKind.i64 (FD.i (fa (Int.toNat (Int.ofNat y1)) (0 : Nat)) * FD.i (fb (Int.toNat (Int.ofNat y1)) (0 : Nat))))))) ∧ ((((Ref.root (0) (0)) = (Ref.root (0) (0))) ∧ (((FD.list [Sh.int IntKind.i64] na fa) = (FD.list [Sh.int IntKind.i64] na fa)) ∧ (true = true))) ∧ ((((IntKind.i64) = (IntKind.i64)) ∧ ((Int.ofNat na) = (Int.ofNat na))) ∧ ((((IntKind.i64) = (IntKind.i64)) ∧ ((Int.ofNat y2) = (IntKind.wrap IntKind.i64 (Int.ofNat y1 + (1 : Int))))) ∧ True)))))) ∧ True)))) ∧ (((decide ((0 : Int) ≤ Int.ofNat y1) && decide (Int.ofNat y1 < (↑nb : Int))) = (false)) → False))) ∧ (((decide ((0 : Int) ≤ Int.ofNat y1) && decide (Int.ofNat y1 < (↑na : Int))) = (false)) → False))) ∧ (((decide (Int.ofNat y1 < Int.ofNat na)) = (false)) → (((IntKind.i64) = (IntKind.i64)) ∧ ((IH fa fb na) = (IH fa fb y1)))))))))) := by kernel_rfl
 refine hvc.mpr ?_
 clear hvc
 have hc := Nat.le_of_ble_eq_true hc
 have hl := ga.len
 have hl' : maxLen = 9223372036854775807 := rfl
 simp
 refine ⟨rfl, fun x hx => ⟨fun h => ⟨fun _ => ⟨fun _ => ⟨x + 1, ⟨by omega, by omega⟩, rfl, ?_⟩, by omega⟩, h⟩, fun h => by rw [show x = na by omega]⟩⟩
 rw [aQ (by omega) (by omega)]; rfl

def aV (n : Int) : Int := IntKind.i64.wrap n

theorem NJ (a : Int) {b : Int} (h : b ≠ 0) : (a.tmod b).natAbs < b.natAbs := by
 rw [Int.natAbs_tmod]
 exact Nat.mod_lt _ (by omega)
/-- The divisor, as the loop finds it. -/
def LG : Nat → Int → Int → Int
 | 0, a, _ => a
 | n + 1, a, b => if b = 0 then a else LG n b (a.tmod b)
theorem C6 : ∀ (n m : Nat) (a b : Int), b.natAbs < n → b.natAbs < m → LG n a b = LG m a b
 | n + 1, m + 1, a, b, h1, h2 => by
  simp only [LG]
  split
  ·rfl
  ·rename_i hb
   have := NJ a hb
   exact C6 n m b (a.tmod b) (by omega) (by omega)
 | 0, _, _, _, h, _ => by omega
 | _, 0, _, _, _, h => by omega
def aO (a b : Int) : Int := LG (b.natAbs + 1) a b
theorem t7 (a : Int) : aO a 0 = a := rfl
theorem t8 (a : Int) {b : Int} (h : b ≠ 0) : aO a b = aO b (a.tmod b) := by
 show LG (b.natAbs + 1) a b = _
 simp only [LG, h, if_false]
 have := NJ a h
 exact C6 _ _ _ _ this (by omega)
def z1 : List PT := [.one (.int .i64), .one (.int .i64)]
def IJ : List FD → Bool
 | [.int _ _, .int _ _] => true
 | _ => false
def z2 : List FD → List FD
 | [.int _ a, .int _ b] => [.int .i64 (aO a b)]
 | _ => []
def IK (a : Int) (b : Int) : Nat → b9 := aZ (fun _ => [{ι := Int × Int, G := fun x => aO x.1 x.2 = aO a b, μ := fun x => x.2.natAbs, tl := fun x => [(0, .one (.int IntKind.i64 (.tm x.1))), (1, .one (.int IntKind.i64 (.tm x.2)))], bl := fun _ => [], nx := 1}])
theorem LH : dA (mkR sm0 gs0) Try.prog η0 91 (FI.of Try.f91 true) z1 (.one (.int .i64)) IJ z2 := by
 refine aM eW dH Try.fok91 (fun fds => match fds with | [.int _ a, .int _ b] => IK a b | _ => aZ fun _ => []) ?_
 intro fds hf hc
 obtain ⟨a, ds0, rfl, hf1⟩ := hf.int
 obtain ⟨b, ds1, rfl, hf2⟩ := hf1.int
 obtain rfl := hf2.nil
 have hc : (true) = true := hc
 have hvc : (vcF sm0 gs0 (FI.of Try.f91 true) z1 (.one (.int .i64)) (IK a b) noR [.int .i64 a, .int .i64 b] (z2 [.int .i64 a, .int .i64 b])) =
  ((true = true) ∧ (∃ y0 : Nat, ((∃ y1 : Int × Int, ((((aO (Prod.fst y1) (Prod.snd y1)) = (aO a b)) ∧ True) ∧ (((true = true) ∧ ((((IntKind.i64) = (IntKind.i64)) ∧ ((Prod.fst y1) = (a))) ∧ ((((IntKind.i64) = (IntKind.i64)) ∧ ((Prod.snd y1) = (b))) ∧ True))) ∧ True))) ∧ (∀ y1 : Int × Int, (((aO (Prod.fst y1) (Prod.snd y1)) = (aO a b)) → ((((decide (Prod.snd y1 = (0 : Int))) = (false)) → ((((!decide (Prod.snd y1 = (0 : Int))) = (true)) → (∃ y2 : Int × Int, ((((aO (Prod.fst y2) (Prod.snd y2)) = (aO a b)) ∧ Int.natAbs (Prod.snd y2) < Int.natAbs (Prod.snd y1)) ∧ (((true = true) ∧ ((((IntKind.i64) = (IntKind.i64)) ∧ ((Prod.fst y2) = (Prod.snd y1))) ∧ ((((IntKind.i64) = (IntKind.i64)) ∧ ((Prod.snd y2) = (Int.tmod (Prod.fst y1) (Prod.snd y1)))) ∧ True))) ∧ True)))) ∧ (((!decide (Prod.snd y1 = (0 : Int))) = (false)) → False))) ∧ (((decide (Prod.snd y1 = (0 : Int))) = (true)) → (((IntKind.i64) = (IntKind.i64)) ∧ ((aO a b) = (Prod.fst y1)))))))))) := by kernel_rfl
 refine hvc.mpr ?_
 clear hvc
 clear hf hf1 hf2
 simp
 intro x y hg
 refine ⟨fun h => ⟨fun _ => ⟨by rw [← t8 x h]; exact hg, Nat.mod_lt _ (by omega)⟩, h⟩, fun h => ?_⟩
 subst h
 rw [← hg, t7]

def LI : List PT := [.one (.list [.int .i64])]
def RI : List FD → Bool
 | [.list _ _ _] => true
 | _ => false
def LJ : List FD → List FD
 | [.list _ na fa] => [.int .i64 (II fa na)]
 | _ => []
def RJ (na : Nat) (fa : Nat → Nat → FD) : Nat → b9 := aZ (fun _ => [{ι := Nat, G := fun x => x ≤ na, μ := fun x => na - x, tl := fun x => [(3, .one (.int IntKind.i64 (.tm (II fa x)))), (6, .one (.fz (.root (0 : Nat) (0 : Nat)) (FD.list [Sh.int IntKind.i64] na fa))), (7, .one (.int IntKind.i64 (.tm (Int.ofNat na)))), (8, .one (.int IntKind.i64 (.tm (Int.ofNat x))))], bl := fun _ => [], nx := 1}])
theorem RK : dA (mkR sm0 gs0) Try.prog η0 121 (FI.of Try.f121 true) LI (.one (.int .i64)) RI LJ := by
 refine aM eW dH Try.fok121 (fun fds => match fds with | [.list _ na fa] => RJ na fa | _ => aZ fun _ => []) ?_
 intro fds hf hc
 obtain ⟨na, fa, ds0, rfl, ga, hf1⟩ := hf.list
 obtain rfl := hf1.nil
 have hc : (true) = true := hc
 have hvc : (vcF sm0 gs0 (FI.of Try.f121 true) LI (.one (.int .i64)) (RJ na fa) noR [.list [.int .i64] na fa] (LJ [.list [.int .i64] na fa])) =
  ((true = true) ∧ (∃ y0 : Nat, ((∃ y1 : Nat, ((y1 ≤ na ∧ True) ∧ (((true = true) ∧ ((((IntKind.i64) = (IntKind.i64)) ∧ ((II fa y1) = ((0 : Int)))) ∧ ((((Ref.root (0) (0)) = (Ref.root (0) (0))) ∧ (((FD.list [Sh.int IntKind.i64] na fa) = (FD.list [Sh.int IntKind.i64] na fa)) ∧ (true = true))) ∧ ((((IntKind.i64) = (IntKind.i64)) ∧ ((Int.ofNat na) = (Int.ofNat na))) ∧ ((((IntKind.i64) = (IntKind.i64)) ∧ ((Int.ofNat y1) = ((0 : Int)))) ∧ True))))) ∧ True))) ∧ (∀ y1 : Nat, (y1 ≤ na → ((((decide (Int.ofNat y1 < Int.ofNat na)) = (true)) → ((((decide ((0 : Int) ≤ Int.ofNat y1) && decide (Int.ofNat y1 < (↑na : Int))) = (true)) → (∃ y2 : Nat, ((y2 ≤ na ∧ na - y2 < na - y1) ∧ (((true = true) ∧ ((((IntKind.i64) = (IntKind.i64)) ∧ ((II fa y2) = (IntKind.wrap IntKind.i64 (II fa y1 + FD.i (fa (Int.toNat (Int.ofNat y1)) (0 : Nat)))))) ∧ ((((Ref.root (0) (0)) = (Ref.root (0) (0))) ∧ (((FD.list [Sh.int IntKind.i64] na fa) = (FD.list [Sh.int IntKind.i64] na fa)) ∧ (true = true))) ∧ ((((IntKind.i64) = (IntKind.i64)) ∧ ((Int.ofNat na) = (Int.ofNat na))) ∧ ((((IntKind.i64) = (IntKind.i64)) ∧ ((Int.ofNat y2) = (IntKind.wrap IntKind.i64 (Int.ofNat y1 + (1 : Int))))) ∧ True))))) ∧ True)))) ∧ (((decide ((0 : Int) ≤ Int.ofNat y1) && decide (Int.ofNat y1 < (↑na : Int))) = (false)) → False))) ∧ (((decide (Int.ofNat y1 < Int.ofNat na)) = (false)) → (((IntKind.i64) = (IntKind.i64)) ∧ ((II fa na) = (II fa y1)))))))))) := by kernel_rfl
 refine hvc.mpr ?_
 clear hvc
 have hl := ga.len
 have hl' : maxLen = 9223372036854775807 := rfl
 simp
 refine ⟨rfl, fun x hx => ⟨fun h => ⟨fun _ => ⟨x + 1, ⟨by omega, by omega⟩, rfl, ?_⟩, h⟩, fun h => by rw [show x = na by omega]⟩⟩
 rw [aQ (by omega) (by omega)]; rfl

def atS : List PT := [.agg [.int .i64, .int .i64, .int .i64, .int .i64, .int .i64, .int .i64], .one (.int .i64)]
def atC : List FD → Bool
 | [.int _ st, .int _ pl, .int _ ho, .int _ _, .int _ _, .int _ _, .int _ _] => !decide (pl = 0) && (!decide (st = 0) && !decide (ho = 0))
 | _ => false
def atR : List FD → List FD
 | [.int _ st, .int _ pl, .int _ ho, .int _ ge, .int _ p, .int _ h, .int _ s] => [.int .i64 (Int.tmod (aV (s + aV (p * aV (st.tdiv pl)))) st), .int .i64 (Int.tmod (aV (h + aV (ge * s))) ho)]
 | _ => []
def atI (_st : Int) (_pl : Int) (_ho : Int) (_ge : Int) (_p : Int) (_h : Int) (_s : Int) : Nat → b9 := aZ (fun _ => [])
theorem T9 : dA (mkR sm0 gs0) Try.prog η0 115 (FI.of Try.f115 true) atS (.tup [.one (.int .i64), .one (.int .i64)]) atC atR := by
 refine aM eW dH Try.fok115 (fun fds => match fds with | [.int _ st, .int _ pl, .int _ ho, .int _ ge, .int _ p, .int _ h, .int _ s] => atI st pl ho ge p h s | _ => aZ fun _ => []) ?_
 intro fds hf hc
 obtain ⟨st, ds0, rfl, hf1⟩ := hf.int
 obtain ⟨pl, ds1, rfl, hf2⟩ := hf1.int
 obtain ⟨ho, ds2, rfl, hf3⟩ := hf2.int
 obtain ⟨ge, ds3, rfl, hf4⟩ := hf3.int
 obtain ⟨p, ds4, rfl, hf5⟩ := hf4.int
 obtain ⟨h, ds5, rfl, hf6⟩ := hf5.int
 obtain ⟨s, ds6, rfl, hf7⟩ := hf6.int
 obtain rfl := hf7.nil
 have hc : (!decide (pl = 0) && (!decide (st = 0) && !decide (ho = 0))) = true := hc
 have hvc : (vcF sm0 gs0 (FI.of Try.f115 true) atS (.tup [.one (.int .i64), .one (.int .i64)]) (atI st pl ho ge p h s) noR [.int .i64 st, .int .i64 pl, .int .i64 ho, .int .i64 ge, .int .i64 p, .int .i64 h, .int .i64 s] (atR [.int .i64 st, .int .i64 pl, .int .i64 ho, .int .i64 ge, .int .i64 p, .int .i64 h, .int .i64 s])) =
  ((true = true) ∧ ((((!decide (pl = (0 : Int))) = (true)) → ((((!decide (st = (0 : Int))) = (true)) → ((((!decide (ho = (0 : Int))) = (true)) → ((((IntKind.i64) = (IntKind.i64)) ∧ ((Int.tmod (aV (s + aV (p * aV (Int.tdiv st pl)))) st) = (Int.tmod (IntKind.wrap IntKind.i64 (s + IntKind.wrap IntKind.i64 (p * IntKind.wrap IntKind.i64 (Int.tdiv st pl)))) st))) ∧ ((((IntKind.i64) = (IntKind.i64)) ∧ ((Int.tmod (aV (h + aV (ge * s))) ho) = (Int.tmod (IntKind.wrap IntKind.i64 (h + IntKind.wrap IntKind.i64 (ge * s))) ho))) ∧ True))) ∧ (((!decide (ho = (0 : Int))) = (false)) → False))) ∧ (((!decide (st = (0 : Int))) = (false)) → False))) ∧ (((!decide (pl = (0 : Int))) = (false)) → False))) := by kernel_rfl
 refine hvc.mpr ?_
 clear hvc
 simp only [Bool.and_eq_true, Bool.not_eq_true', decide_eq_false_iff_not] at hc
 simp [hc]
 exact ⟨rfl, rfl⟩
end
end Go.Ex


namespace Go.Ex
open Go Go.Proofs Go.RowKit Go.Shelf
attribute [local go_sem] Oper.semAt_some
noncomputable section

def Y0 : Emb := ⟨fun _ => none, fun _ _ => none, fun _ _ => none, fun _ => none, ⟨[], fun _ _ => none⟩, fun _ _ => none⟩
theorem TN (w : World) : ZW Y0 w := fun _ _ _ h => by cases h
theorem IL {f : FuncId} {fi : FI} (hF : FI.Ok Try.prog f fi) {ags : Array Value} {w : World} {v : Value} (h : u9 Try.prog f ags w v) : Calls Try.prog f ags w fun e w' => e = .returned v ∧ Below w.heap.size w w' := by
 rcases h with h | ⟨_, h⟩
 ·rw [cA hF] at h; cases h
 ·exact h
theorem RL (st pl ho ge p h s : Int) (h1 : pl ≠ 0) (h2 : st ≠ 0) (h3 : ho ≠ 0) (w : World) : Calls Try.prog 115 #[.agg #[.int .i64 st, .int .i64 pl, .int .i64 ho, .int .i64 ge, .int .i64 p, .int .i64 h], .int .i64 s] w fun e w' =>
  e = .returned (.tuple #[.int .i64 (Int.tmod (aV (s + aV (p * aV (st.tdiv pl)))) st), .int .i64 (Int.tmod (aV (h + aV (ge * s))) ho)]) ∧ Below w.heap.size w w' := by
 have hs := aW eW dH T9 rfl [.agg [.int .i64 (.tm st), .int .i64 (.tm pl), .int .i64 (.tm ho), .int .i64 (.tm ge), .int .i64 (.tm p), .int .i64 (.tm h)], .one (.int .i64 (.tm s))] []
  (lP (.tup [.one (.int .i64), .one (.int .i64)]) [.int .i64 (Int.tmod (aV (s + aV (p * aV (st.tdiv pl)))) st), .int .i64 (Int.tmod (aV (h + aV (ge * s))) ho)]) [] ?_ (fun x hx => by cases hx)
 ·obtain ⟨v, e1, e2⟩ := hs.2 Y0 [.agg #[.int .i64 st, .int .i64 pl, .int .i64 ho, .int .i64 ge, .int .i64 p, .int .i64 h], .int .i64 s] w (TN w) rfl
  cases e1
  exact IL Try.fok115 e2
 ·show aA.at_ η0 (chk (!decide (pl = 0) && (!decide (st = 0) && !decide (ho = 0))) _) = _
  simp only [chk, aA.at_, fE.den, h1, h2, h3, decide_false, Bool.not_false, Bool.and_self, if_true]
  rfl

theorem jM {k : Nat} (h : k ≤ 9223372036854775807) : aV (k : Int) = k := aQ (by omega) (by omega)
theorem TO (st pl ho ge p h s : Nat) (hpl : 0 < pl) (b1 : st ≤ 1000) (b2 : p ≤ 1000) (b3 : h ≤ 1000) (b4 : ge ≤ 1000) (b5 : s ≤ 1000000000000) :
  Int.tmod (aV ((s : Int) + aV ((p : Int) * aV ((st : Int).tdiv pl)))) st = (((s + p * (st / pl)) % st : Nat) : Int) ∧ Int.tmod (aV ((h : Int) + aV ((ge : Int) * s))) ho = (((h + ge * s) % ho : Nat) : Int) := by
 have e1 : (st : Int).tdiv pl = ((st / pl : Nat) : Int) := by rw [Int.tdiv_eq_ediv_of_nonneg (by omega)]; exact (Int.natCast_ediv st pl).symm
 have h1 : st / pl ≤ 1000 := Nat.le_trans (Nat.div_le_self _ _) b1
 have h2 : p * (st / pl) ≤ 1000 * 1000 := Nat.mul_le_mul b2 h1
 have h3 : ge * s ≤ 1000 * 1000000000000 := Nat.mul_le_mul b4 b5
 rw [e1, jM (by omega)]
 rw [show (p : Int) * ((st / pl : Nat) : Int) = ((p * (st / pl) : Nat) : Int) by rw [Int.natCast_mul], show (ge : Int) * (s : Int) = ((ge * s : Nat) : Int) by rw [Int.natCast_mul]]
 rw [jM (by omega), jM (by omega)]
 rw [show (s : Int) + ((p * (st / pl) : Nat) : Int) = ((s + p * (st / pl) : Nat) : Int) by omega, show (h : Int) + ((ge * s : Nat) : Int) = ((h + ge * s : Nat) : Int) by omega]
 rw [jM (by omega), jM (by omega)]
 rw [Int.tmod_eq_emod_of_nonneg (by omega), Int.tmod_eq_emod_of_nonneg (by omega)]
 exact ⟨(Int.natCast_emod _ _).symm, (Int.natCast_emod _ _).symm⟩
def z3 (st pl ho ge p h : Nat) : List Value := [.int .i64 (st : Int), .int .i64 (pl : Int), .int .i64 (ho : Int), .int .i64 (ge : Int), .int .i64 (p : Int), .int .i64 (h : Int)]
def fS (st pl ge p h n : Nat) : List (Nat × Nat) := (List.range n).map fun s => (s + p * (st / pl), h + ge * s)
def Y1 : Value → Nat
 | .int _ n => n.toNat
 | _ => 0
theorem iW (st pl ho ge p h n : Nat) (hst : 0 < st) (hpl : 0 < pl) (hho : 0 < ho) (b1 : st ≤ 1000) (b2 : p ≤ 1000) (b3 : h ≤ 1000) (b4 : ge ≤ 1000) (b5 : n ≤ 1000000000000) :
  K9 Try.prog 142 [[.int .i64 (n : Int)], z3 st pl ho ge p h] (fun x : Nat × Nat => [.int .i64 ((x.1 % st : Nat) : Int), .int .i64 ((x.2 % ho : Nat) : Int)]) (fS st pl ge p h n) := by
 refine ⟨fun ags w => cA Try.fok142 ags w, fun Bs W0 N hN hBl hCH l J Jx W hb hJ hJx hY h0 => ?_⟩
 match Bs, hBl with
 | [c1, c2], _ =>
  have hcell : ∀ (i B : Nat) (vs : List Value) (o : Nat) (v : Value), [c1, c2][i]? = some B → [[Value.int .i64 (n : Int)], z3 st pl ho ge p h][i]? = some vs → vs[o]? = some v → W.cell? ⟨B, o, none⟩ = some v := fun i B vs o v h1 h2 h3 => by
   have := hCH i B vs o v h1 h2 h3
   have hlt : B < W0.heap.size := by
    obtain ⟨o', ho', _⟩ := cells_of_cell this
    exact (Array.getElem?_eq_some_iff.1 ho').1
   exact (hb.cell (p := ⟨B, o, none⟩) hlt).trans this
  have q1 : W.cell? ⟨c1, 0, none⟩ = some (.int .i64 (n : Int)) := hcell 0 c1 _ 0 _ rfl rfl rfl
  obtain ⟨F, hFe⟩ : ∃ F, F = FW none := ⟨_, rfl⟩
  have hFn : ∀ f, F.fn f := fun f => by rw [hFe]; trivial
  have hro : F.round = none := by rw [hFe]; rfl
  have hat : ∀ (s : Nat), s ≤ 1000000000000 → ∀ (k : Nat) (w : World), CallsIn F k Try.prog 115 #[.agg #[.int .i64 (st : Int), .int .i64 (pl : Int), .int .i64 (ho : Int), .int .i64 (ge : Int), .int .i64 (p : Int), .int .i64 (h : Int)], .int .i64 (s : Int)] w fun e w' =>
    e = .returned (.tuple #[.int .i64 (((s + p * (st / pl)) % st : Nat) : Int), .int .i64 (((h + ge * s) % ho : Nat) : Int)]) ∧ Below w.heap.size w w' := fun s hs k w => by
   rw [hFe]
   have := RL st pl ho ge p h s (by omega) (by omega) (by omega) w
   obtain ⟨e1, e2⟩ := TO st pl ho ge p h s hpl b1 b2 b3 b4 hs
   rw [e1, e2] at this
   exact callsIn_wide.2 this
  rw [← hFe] at hY ⊢
  clear hFe
  have h115 := hFn 115
  have hN1 : 1 ≤ N := by omega
  have hN2 : 1 ≤ N - 1 := by omega
  have h142 := hFn 142
  refine callsIn_of_wp Try.func142 rfl h142 ?_ hro
  simp only [Try.ntmps142, List.map_cons, List.map_nil, List.size_toArray, List.length_cons, List.length_nil, Nat.reduceAdd, Nat.reduceSub, Array.replicate_succ, Array.replicate_zero, List.push_toArray, List.append_toArray, List.nil_append, List.cons_append]
  have hCW : gC [c1, c2] [[.int .i64 (n : Int)], z3 st pl ho ge p h] W := hcell
  gi_wp2
  gi_loopw [6] (fun v wr => ∃ s : Nat, s ≤ n ∧ v = .int .i64 (s : Int) ∧ gC [c1, c2] [[.int .i64 (n : Int)], z3 st pl ho ge p h] wr ∧ J ((List.range s).map fun s => (s + p * (st / pl), h + ge * s)) wr) (fun v _ => n - Y1 v)
  case atStart => exact ⟨0, Nat.zero_le _, rfl, hCW, h0⟩
  case round =>
   obtain ⟨s, hs, rfl, hc, hJs⟩ := hrel
   have r0 : wr.cell? ⟨c2, 0, none⟩ = some (.int .i64 (st : Int)) := hc 1 c2 _ 0 _ rfl rfl rfl
   have r1 : wr.cell? ⟨c2, 1, none⟩ = some (.int .i64 (pl : Int)) := hc 1 c2 _ 1 _ rfl rfl rfl
   have r2 : wr.cell? ⟨c2, 2, none⟩ = some (.int .i64 (ho : Int)) := hc 1 c2 _ 2 _ rfl rfl rfl
   have r3 : wr.cell? ⟨c2, 3, none⟩ = some (.int .i64 (ge : Int)) := hc 1 c2 _ 3 _ rfl rfl rfl
   have r4 : wr.cell? ⟨c2, 4, none⟩ = some (.int .i64 (p : Int)) := hc 1 c2 _ 4 _ rfl rfl rfl
   have r5 : wr.cell? ⟨c2, 5, none⟩ = some (.int .i64 (h : Int)) := hc 1 c2 _ 5 _ rfl rfl rfl
   have hlen : s < n → ((List.range s).map fun s => (s + p * (st / pl), h + ge * s)).length < (fS st pl ge p h n).length := fun hs => by simp [fS]; exact hs
   have hkeepJ : ∀ w1, Below wr.heap.size wr w1 → J ((List.range s).map fun s => (s + p * (st / pl), h + ge * s)) w1 := fun w1 hB => hJ _ _ _ none hJs ⟨hB.os, hB.tape, hB.output, hB.size, fun k hk _ => hB.block k hk⟩ (fun r e => by cases e)
   have hkeepC : ∀ w1, Below wr.heap.size wr w1 → gC [c1, c2] [[.int .i64 (n : Int)], z3 st pl ho ge p h] w1 := fun w1 hB i B vs o v h1 h2 h3 => by
    have := hc i B vs o v h1 h2 h3
    obtain ⟨o', ho', _⟩ := cells_of_cell this
    exact (hB.cell (p := ⟨B, o, none⟩) (Array.getElem?_eq_some_iff.1 ho').1).trans this
   gi_wp2_with (gi_at_call 115; refine (hat s (by omega) _ _).mono ?_; rintro e w1 ⟨rfl, hB1⟩; obtain ⟨fn, tmps, assign, body, hy, hR⟩ := hY _ (s + p * (st / pl), h + ge * s) w1 (hkeepJ w1 hB1) (hlen (by assumption)); simp only [Int.natCast_emod, Int.natCast_add, Int.natCast_mul, Int.natCast_ediv] at hy)
   ·refine hR.mono ?_
    rintro e W3 (⟨rfl, hJ3, hk3⟩ | ⟨rfl, hJx3⟩)
    ·have hc3 := hk3 (hkeepC w1 hB1)
     have hsn : s < n := by assumption
     gi_wp2
     refine ⟨⟨s + 1, by omega, by simp, hc3, ?_⟩, ?_⟩
     ·rw [List.range_succ, List.map_append]; exact hJ3
     ·simp only [Y1]; omega
    ·have hsn : s < n := by assumption
     gi_wp2
     refine bodyPost_ret (results_none rfl _ _ _) rfl ?_
     refine ⟨⟨_, rfl⟩, .inr ⟨_, ?_, hJx3⟩⟩
     refine ⟨((List.range (n - (s + 1))).map (s + 1 + ·)).map fun s => (s + p * (st / pl), h + ge * s), ?_⟩
     show _ = (List.range n).map _
     rw [show n = (s + 1) + (n - (s + 1)) by omega, List.range_add, List.map_append, List.range_succ, List.map_append]
     simp
   ·have hsn : s = n := by
     have : ¬ s < n := by assumption
     omega
    subst hsn
    go_end0
    exact ⟨⟨_, rfl⟩, .inl ⟨_, rfl, hJs⟩⟩

end
end Go.Ex


namespace Go.Ex
open Go Go.Proofs Go.RowKit
noncomputable section

def sm1 : T Smf := (T.set (T.set (T.set (T.set (T.set sm0 88 (some (gFd FA (.one .bool) NH FB))) 91 (some (gFd z1 (.one (.int .i64)) IJ z2))) 120 (some (gFd WT (.one (.int .i64)) YY WU))) 121 (some (gFd LI (.one (.int .i64)) RI LJ))) 115 (some (gFd atS (.tup [.one (.int .i64), .one (.int .i64)]) atC atR)))
theorem LL : Tab fK sm1 := (Tab.set (Tab.set (Tab.set (Tab.set (Tab.set eW (by kernel_rfl) (aW eW dH O2 rfl)) (by kernel_rfl) (aW eW dH LH rfl)) (by kernel_rfl) (aW eW dH WV rfl)) (by kernel_rfl) (aW eW dH RK rfl)) (by kernel_rfl) (aW eW dH T9 rfl))
def LM (a b : Int) : Int := IntKind.i64.wrap (a.tdiv b)
def aC (st ho ge : Int) : Int := aV (LM st (aO st (LM ho (aO ho ge))) * LM ho (aO ho ge))
def FC : List PT := [.agg [.int .i64, .int .i64, .int .i64, .int .i64]]
def eJ : List FD → Bool
 | [.int _ st, .int _ _, .int _ ho, .int _ ge] => !decide (aO ho ge = 0) && !decide (aO st (LM ho (aO ho ge)) = 0)
 | _ => false
def FE : List FD → List FD
 | [.int _ st, .int _ _, .int _ ho, .int _ ge] => [.int .i64 (aC st ho ge)]
 | _ => []
def NK (_st : Int) (_pl : Int) (_ho : Int) (_ge : Int) : Nat → b9 := aZ (fun _ => [])
theorem O3 : dA (mkR sm1 gs0) Try.prog η0 100 (FI.of Try.f100 true) FC (.one (.int .i64)) eJ FE := by
 refine aM LL dH Try.fok100 (fun fds => match fds with | [.int _ st, .int _ pl, .int _ ho, .int _ ge] => NK st pl ho ge | _ => aZ fun _ => []) ?_
 intro fds hf hc
 obtain ⟨st, ds0, rfl, hf1⟩ := hf.int
 obtain ⟨pl, ds1, rfl, hf2⟩ := hf1.int
 obtain ⟨ho, ds2, rfl, hf3⟩ := hf2.int
 obtain ⟨ge, ds3, rfl, hf4⟩ := hf3.int
 obtain rfl := hf4.nil
 have hc : (!decide (aO ho ge = 0) && !decide (aO st (LM ho (aO ho ge)) = 0)) = true := hc
 have hvc : (vcF sm1 gs0 (FI.of Try.f100 true) FC (.one (.int .i64)) (NK st pl ho ge) noR [.int .i64 st, .int .i64 pl, .int .i64 ho, .int .i64 ge] (FE [.int .i64 st, .int .i64 pl, .int .i64 ho, .int .i64 ge])) =
  ((true = true) ∧ (((true = true) → ((((!decide (aO ho ge = (0 : Int))) = (true)) → (((true = true) → ((((!decide (aO st (IntKind.wrap IntKind.i64 (Int.tdiv ho (aO ho ge))) = (0 : Int))) = (true)) → (((IntKind.i64) = (IntKind.i64)) ∧ ((aC st ho ge) = (IntKind.wrap IntKind.i64 (IntKind.wrap IntKind.i64 (Int.tdiv st (aO st (IntKind.wrap IntKind.i64 (Int.tdiv ho (aO ho ge))))) * IntKind.wrap IntKind.i64 (Int.tdiv ho (aO ho ge))))))) ∧ (((!decide (aO st (IntKind.wrap IntKind.i64 (Int.tdiv ho (aO ho ge))) = (0 : Int))) = (false)) → False))) ∧ ((true = false) → False))) ∧ (((!decide (aO ho ge = (0 : Int))) = (false)) → False))) ∧ ((true = false) → False))) := by kernel_rfl
 refine hvc.mpr ?_
 clear hvc
 simp only [Bool.and_eq_true, Bool.not_eq_true', decide_eq_false_iff_not] at hc
 simp [hc]
 exact ⟨fun _ => rfl, hc.2⟩
def sm2 : T Smf := (T.set sm1 100 (some (gFd FC (.one (.int .i64)) eJ FE)))
theorem LN : Tab fK sm2 := (Tab.set LL (by kernel_rfl) (aW LL dH O3 rfl))

/-- A right rack. -/
def pR (st pl ho ge : Int) : Bool := (decide (1 ≤ st) && decide (st ≤ 24)) && (decide (1 ≤ pl) && decide (pl ≤ 8)) && (decide (1 ≤ ho) && decide (ho ≤ 12)) && (decide (0 ≤ ge) && decide (ge < ho)) && decide (st.tmod pl = 0)
def vL (pl ho p h : Int) : Bool := (decide (0 ≤ p) && decide (p < pl)) && (decide (0 ≤ h) && decide (h < ho))
/-- The rows are there. -/
def vM (st ho : Int) (nfl : Nat) (ffl : Nat → Nat → FD) : Bool := Nat.ble st.toNat nfl && aJ (fun i => Nat.ble ho.toNat (ffl i 0).ln) st.toNat

theorem lV : ∀ (b a : Nat), aO (a : Int) (b : Int) = ((Nat.gcd a b : Nat) : Int) := by
 intro b
 induction b using Nat.strongRecOn with
 | _ b ih =>
  intro a
  rcases Nat.eq_zero_or_pos b with rfl | hb
  ·rw [show ((0 : Nat) : Int) = 0 from rfl, t7, Nat.gcd_zero_right]
  ·rw [t8 _ (by omega), Int.tmod_eq_emod_of_nonneg (by omega), ← Int.natCast_emod, ih (a % b) (Nat.mod_lt _ hb), Nat.gcd_comm b, ← Nat.gcd_rec, Nat.gcd_comm]
theorem z4 {a b : Nat} (ha : a ≤ 9223372036854775807) : LM (a : Int) (b : Int) = ((a / b : Nat) : Int) := by
 unfold LM
 rw [Int.tdiv_eq_ediv_of_nonneg (by omega), ← Int.natCast_ediv]
 have : a / b ≤ a := Nat.div_le_self _ _
 generalize a / b = q at this ⊢
 exact aQ (by omega) (by omega)
/-- The period. -/
def FF (st ho ge : Nat) : Nat := st / Nat.gcd st (ho / Nat.gcd ho ge) * (ho / Nat.gcd ho ge)
theorem oN {st ho ge : Nat} (h1 : st ≤ 24) (h2 : ho ≤ 12) : aC st ho ge = ((FF st ho ge : Nat) : Int) := by
 unfold aC FF
 have e1 : ho / Nat.gcd ho ge ≤ ho := Nat.div_le_self _ _
 have e2 : st / Nat.gcd st (ho / Nat.gcd ho ge) ≤ st := Nat.div_le_self _ _
 have e3 : st / Nat.gcd st (ho / Nat.gcd ho ge) * (ho / Nat.gcd ho ge) ≤ 24 * 12 := Nat.mul_le_mul (by omega) (by omega)
 rw [lV, z4 (by omega), lV, z4 (by omega), ← Int.natCast_mul, jM (by omega)]

theorem j6 {st pl ho ge : Int} (h : pR st pl ho ge = true) : ∃ S P H G : Nat, (st = S ∧ pl = P ∧ ho = H ∧ ge = G) ∧ 1 ≤ S ∧ S ≤ 24 ∧ 1 ≤ P ∧ P ≤ 8 ∧ 1 ≤ H ∧ H ≤ 12 ∧ G < H ∧ S % P = 0 := by
 simp only [pR, Bool.and_eq_true, decide_eq_true_eq] at h
 obtain ⟨⟨⟨⟨⟨a1, a2⟩, a3, a4⟩, a5, a6⟩, a7, a8⟩, a9⟩ := h
 obtain ⟨S, rfl⟩ := Int.eq_ofNat_of_zero_le (show 0 ≤ st by omega)
 obtain ⟨P, rfl⟩ := Int.eq_ofNat_of_zero_le (show 0 ≤ pl by omega)
 obtain ⟨H, rfl⟩ := Int.eq_ofNat_of_zero_le (show 0 ≤ ho by omega)
 obtain ⟨G, rfl⟩ := Int.eq_ofNat_of_zero_le (show 0 ≤ ge by omega)
 refine ⟨S, P, H, G, ⟨rfl, rfl, rfl, rfl⟩, by omega, by omega, by omega, by omega, by omega, by omega, by omega, ?_⟩
 rw [Int.tmod_eq_emod_of_nonneg (by omega), ← Int.natCast_emod] at a9
 omega
theorem IM {pl ho p h : Int} (hp : vL pl ho p h = true) : ∃ Q K : Nat, (p = Q ∧ h = K) ∧ (Q : Int) < pl ∧ (K : Int) < ho := by
 simp only [vL, Bool.and_eq_true, decide_eq_true_eq] at hp
 obtain ⟨⟨a1, a2⟩, a3, a4⟩ := hp
 obtain ⟨Q, rfl⟩ := Int.eq_ofNat_of_zero_le a1
 obtain ⟨K, rfl⟩ := Int.eq_ofNat_of_zero_le a3
 exact ⟨Q, K, ⟨rfl, rfl⟩, a2, a4⟩
theorem z5 {S H nfl : Nat} {ffl : Nat → Nat → FD} (h : vM (S : Int) (H : Int) nfl ffl = true) : S ≤ nfl ∧ ∀ i, i < S → H ≤ (ffl i 0).ln := by
 simp only [vM, Bool.and_eq_true, Int.toNat_natCast] at h
 exact ⟨Nat.le_of_ble_eq_true h.1, fun i hi => Nat.le_of_ble_eq_true (bJ h.2 i hi)⟩
theorem RM {H : Nat} (G : Nat) (h : 1 ≤ H) : 0 < H / Nat.gcd H G := Nat.div_pos (Nat.le_of_dvd h (Nat.gcd_dvd_left H G)) (Nat.gcd_pos_of_pos_left G h)
theorem RN {S H : Nat} (G : Nat) (h1 : 1 ≤ S) (h2 : 1 ≤ H) : 0 < FF S H G :=
 Nat.mul_pos (Nat.div_pos (Nat.le_of_dvd h1 (Nat.gcd_dvd_left S _)) (Nat.gcd_pos_of_pos_left _ h1)) (RM G h2)
theorem vN {S H : Nat} (P G : Nat) (h1 : 1 ≤ S) (h2 : 1 ≤ H) (h3 : H ≤ 12) : eJ [.int .i64 (S : Int), .int .i64 (P : Int), .int .i64 (H : Int), .int .i64 (G : Int)] = true := by
 simp only [eJ, Bool.and_eq_true, Bool.not_eq_true', decide_eq_false_iff_not]
 rw [lV, z4 (by omega), lV]
 have e1 := Nat.gcd_pos_of_pos_left G h2
 have e2 := Nat.gcd_pos_of_pos_left (H / Nat.gcd H G) h1
 exact ⟨by omega, by omega⟩

end
end Go.Ex

