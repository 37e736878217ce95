/-
  Contracts of small functions of the rack.
-/
/-
  The iterator over the places of a part.
-/
/-
  Contracts: the period; the thickness of a part.
-/
import Derived.Test.YtdpabnfcfakjeaaExK
import Derived.RangeFuncNested
import Derived.RangeFuncBound
import Derived.RangeFuncCalls
import Derived.RangeFuncLeaves
import Derived.Shelf.Abstract
import Derived.Shelf.RegionOpen
import Derived.WalkKit
import Derived.OwnWalkIn
import Derived.TacticsInMore
import Derived.LoopNIn
import Derived.LoopIn

namespace Go.Ex
open Go Go.Proofs Go.RowKit
noncomputable section

theorem wrap_id {n : Int} (h1 : -9223372036854775808 ≤ n) (h2 : n ≤ 9223372036854775807) : IntKind.i64.wrap n = n := by
  have := wr_eq n
  unfold wr at this
  rw [this]; omega

def dotF (f g : Nat → Nat → FD) : Nat → Int
  | 0 => 0
  | x + 1 => IntKind.i64.wrap (dotF f g x + IntKind.i64.wrap ((f x 0).i * (g x 0).i))
def sumF (f : Nat → Nat → FD) : Nat → Int
  | 0 => 0
  | x + 1 => IntKind.i64.wrap (sumF f x + (f x 0).i)

def withinS : List PT := [.one (.int .i64), .one (.int .i64), .one (.int .i64)]
def withinC : List FD → Bool
  | [.int _ _, .int _ _, .int _ _] => true
  | _ => false
def withinR : List FD → List FD
  | [.int _ a, .int _ b, .int _ c] => [.bool (decide (b ≤ a) && decide (a ≤ c))]
  | _ => []
def withinI (_a : Int) (_b : Int) (_c : Int) : Nat → AFam := alts (fun _ => [])
theorem within_ok : FnOk (mkR sm0 gs0) Try.prog η0 88 (FI.of Try.f88 true) withinS (.one .bool) withinC withinR := by
  refine fnOk_of0 sm0_ok gs0_ok Try.fok88 (fun fds => match fds with | [.int _ a, .int _ b, .int _ c] => withinI a b c | _ => alts fun _ => []) ?_
  intro fds hf hc
  obtain ⟨a, ds0, rfl, hf1⟩ := hf.int
  obtain ⟨b, ds1, rfl, hf2⟩ := hf1.int
  obtain ⟨c, ds2, rfl, hf3⟩ := hf2.int
  obtain rfl := hf3.nil
  have hc : (true) = true := hc
  have hvc : (vcF sm0 gs0 (FI.of Try.f88 true) withinS (.one .bool) (withinI a b c) noR [.int .i64 a, .int .i64 b, .int .i64 c] (withinR [.int .i64 a, .int .i64 b, .int .i64 c])) =
    ((true = true) ∧ ((((decide (a < b)) = (true)) → ((decide (b ≤ a) && decide (a ≤ c)) = (false))) ∧ (((decide (a < b)) = (false)) → ((decide (b ≤ a) && decide (a ≤ c)) = (!decide (c < a)))))) := by kernel_rfl
  refine hvc.mpr ?_
  clear hvc
  clear hf hf1 hf2 hf3
  simp
  exact ⟨by omega, fun h => by rw [decide_eq_true h]; simp [← decide_not]⟩

def dotS : List PT := [.one (.list [.int .i64]), .one (.list [.int .i64])]
def dotC : List FD → Bool
  | [.list _ na _, .list _ nb _] => Nat.ble na nb
  | _ => false
def dotR : List FD → List FD
  | [.list _ na fa, .list _ _ fb] => [.int .i64 (dotF fa fb na)]
  | _ => []
def dotI (na : Nat) (fa : Nat → Nat → FD) (nb : Nat) (fb : Nat → Nat → FD) : Nat → AFam := alts (fun _ => [{ι := Nat, G := fun x => x ≤ na, μ := fun x => na - x, tl := fun x => [(1, .one (.fz (.root 0 1) (.list [.int .i64] nb fb))), (5, .one (.int .i64 (.tm (dotF fa fb x)))), (8, .one (.fz (.root 0 0) (.list [.int .i64] na fa))), (9, .one (.int .i64 (.tm (Int.ofNat na)))), (10, .one (.int .i64 (.tm (Int.ofNat x))))], bl := fun _ => [], nx := 1}])
theorem dot_ok : FnOk (mkR sm0 gs0) Try.prog η0 120 (FI.of Try.f120 true) dotS (.one (.int .i64)) dotC dotR := by
  refine fnOk_of0 sm0_ok gs0_ok Try.fok120 (fun fds => match fds with | [.list _ na fa, .list _ nb fb] => dotI na fa nb fb | _ => alts fun _ => []) ?_
  intro fds hf hc
  obtain ⟨na, fa, ds0, rfl, ga, hf1⟩ := hf.list
  obtain ⟨nb, fb, ds1, rfl, gb, hf2⟩ := hf1.list
  obtain rfl := hf2.nil
  have hc : (Nat.ble na nb) = true := hc
  have hvc : (vcF sm0 gs0 (FI.of Try.f120 true) dotS (.one (.int .i64)) (dotI na fa nb fb) noR [.list [.int .i64] na fa, .list [.int .i64] nb fb] (dotR [.list [.int .i64] na fa, .list [.int .i64] nb fb])) =
    ((true = true) ∧ (∃ y0 : Nat, ((∃ y1 : Nat, ((y1 ≤ na ∧ True) ∧ (((true = true) ∧ ((((Ref.root (0) (1)) = (Ref.root (0) (1))) ∧ (((FD.list [Sh.int IntKind.i64] nb fb) = (FD.list [Sh.int IntKind.i64] nb fb)) ∧ (true = true))) ∧ ((((IntKind.i64) = (IntKind.i64)) ∧ ((dotF fa fb y1) = ((0 : Int)))) ∧ ((((Ref.root (0) (0)) = (Ref.root (0) (0))) ∧ (((FD.list [Sh.int IntKind.i64] na fa) = (FD.list [Sh.int IntKind.i64] na fa)) ∧ (true = true))) ∧ ((((IntKind.i64) = (IntKind.i64)) ∧ ((Int.ofNat na) = (Int.ofNat na))) ∧ ((((IntKind.i64) = (IntKind.i64)) ∧ ((Int.ofNat y1) = ((0 : Int)))) ∧ True)))))) ∧ True))) ∧ (∀ y1 : Nat, (y1 ≤ na → ((((decide (Int.ofNat y1 < Int.ofNat na)) = (true)) → ((((decide ((0 : Int) ≤ Int.ofNat y1) && decide (Int.ofNat y1 < (↑na : Int))) = (true)) → ((((decide ((0 : Int) ≤ Int.ofNat y1) && decide (Int.ofNat y1 < (↑nb : Int))) = (true)) → (∃ y2 : Nat, ((y2 ≤ na ∧ na - y2 < na - y1) ∧ (((true = true) ∧ ((((Ref.root (0) (1)) = (Ref.root (0) (1))) ∧ (((FD.list [Sh.int IntKind.i64] nb fb) = (FD.list [Sh.int IntKind.i64] nb fb)) ∧ (true = true))) ∧ ((((IntKind.i64) = (IntKind.i64)) ∧ ((dotF fa fb y2) = (IntKind.wrap IntKind.i64 (dotF fa fb y1 + IntKind.wrap IntKind.i64 (FD.i (fa (Int.toNat (Int.ofNat y1)) (0 : Nat)) * FD.i (fb (Int.toNat (Int.ofNat y1)) (0 : Nat))))))) ∧ ((((Ref.root (0) (0)) = (Ref.root (0) (0))) ∧ (((FD.list [Sh.int IntKind.i64] na fa) = (FD.list [Sh.int IntKind.i64] na fa)) ∧ (true = true))) ∧ ((((IntKind.i64) = (IntKind.i64)) ∧ ((Int.ofNat na) = (Int.ofNat na))) ∧ ((((IntKind.i64) = (IntKind.i64)) ∧ ((Int.ofNat y2) = (IntKind.wrap IntKind.i64 (Int.ofNat y1 + (1 : Int))))) ∧ True)))))) ∧ True)))) ∧ (((decide ((0 : Int) ≤ Int.ofNat y1) && decide (Int.ofNat y1 < (↑nb : Int))) = (false)) → False))) ∧ (((decide ((0 : Int) ≤ Int.ofNat y1) && decide (Int.ofNat y1 < (↑na : Int))) = (false)) → False))) ∧ (((decide (Int.ofNat y1 < Int.ofNat na)) = (false)) → (((IntKind.i64) = (IntKind.i64)) ∧ ((dotF fa fb na) = (dotF fa fb y1)))))))))) := by kernel_rfl
  refine hvc.mpr ?_
  clear hvc
  have hc := Nat.le_of_ble_eq_true hc
  have hl := ga.len
  have hl' : maxLen = 9223372036854775807 := rfl
  simp
  refine ⟨rfl, fun x hx => ⟨fun h => ⟨fun _ => ⟨fun _ => ⟨x + 1, ⟨by omega, by omega⟩, rfl, ?_⟩, by omega⟩, h⟩, fun h => by rw [show x = na by omega]⟩⟩
  rw [wrap_id (by omega) (by omega)]; rfl

def wrapI (n : Int) : Int := IntKind.i64.wrap n

theorem tmod_lt (a : Int) {b : Int} (h : b ≠ 0) : (a.tmod b).natAbs < b.natAbs := by
  rw [Int.natAbs_tmod]
  exact Nat.mod_lt _ (by omega)
/-- The divisor, as the loop finds it. -/
def gcdT : Nat → Int → Int → Int
  | 0, a, _ => a
  | n + 1, a, b => if b = 0 then a else gcdT n b (a.tmod b)
theorem gcdT_step : ∀ (n m : Nat) (a b : Int), b.natAbs < n → b.natAbs < m → gcdT n a b = gcdT m a b
  | n + 1, m + 1, a, b, h1, h2 => by
    simp only [gcdT]
    split
    · rfl
    · rename_i hb
      have := tmod_lt a hb
      exact gcdT_step n m b (a.tmod b) (by omega) (by omega)
  | 0, _, _, _, h, _ => by omega
  | _, 0, _, _, _, h => by omega
def gcdF (a b : Int) : Int := gcdT (b.natAbs + 1) a b
theorem gcdF_zero (a : Int) : gcdF a 0 = a := rfl
theorem gcdF_step (a : Int) {b : Int} (h : b ≠ 0) : gcdF a b = gcdF b (a.tmod b) := by
  show gcdT (b.natAbs + 1) a b = _
  simp only [gcdT, h, if_false]
  have := tmod_lt a h
  exact gcdT_step _ _ _ _ this (by omega)
def divisorS : List PT := [.one (.int .i64), .one (.int .i64)]
def divisorC : List FD → Bool
  | [.int _ _, .int _ _] => true
  | _ => false
def divisorR : List FD → List FD
  | [.int _ a, .int _ b] => [.int .i64 (gcdF a b)]
  | _ => []
def divisorI (a : Int) (b : Int) : Nat → AFam := alts (fun _ => [{ι := Int × Int, G := fun x => gcdF x.1 x.2 = gcdF a b, μ := fun x => x.2.natAbs, tl := fun x => [(0, .one (.int IntKind.i64 (.tm x.1))), (1, .one (.int IntKind.i64 (.tm x.2)))], bl := fun _ => [], nx := 1}])
theorem divisor_ok : FnOk (mkR sm0 gs0) Try.prog η0 91 (FI.of Try.f91 true) divisorS (.one (.int .i64)) divisorC divisorR := by
  refine fnOk_of0 sm0_ok gs0_ok Try.fok91 (fun fds => match fds with | [.int _ a, .int _ b] => divisorI a b | _ => alts fun _ => []) ?_
  intro fds hf hc
  obtain ⟨a, ds0, rfl, hf1⟩ := hf.int
  obtain ⟨b, ds1, rfl, hf2⟩ := hf1.int
  obtain rfl := hf2.nil
  have hc : (true) = true := hc
  have hvc : (vcF sm0 gs0 (FI.of Try.f91 true) divisorS (.one (.int .i64)) (divisorI a b) noR [.int .i64 a, .int .i64 b] (divisorR [.int .i64 a, .int .i64 b])) =
    ((true = true) ∧ (∃ y0 : Nat, ((∃ y1 : Int × Int, ((((gcdF (Prod.fst y1) (Prod.snd y1)) = (gcdF a b)) ∧ True) ∧ (((true = true) ∧ ((((IntKind.i64) = (IntKind.i64)) ∧ ((Prod.fst y1) = (a))) ∧ ((((IntKind.i64) = (IntKind.i64)) ∧ ((Prod.snd y1) = (b))) ∧ True))) ∧ True))) ∧ (∀ y1 : Int × Int, (((gcdF (Prod.fst y1) (Prod.snd y1)) = (gcdF a b)) → ((((decide (Prod.snd y1 = (0 : Int))) = (false)) → ((((!decide (Prod.snd y1 = (0 : Int))) = (true)) → (∃ y2 : Int × Int, ((((gcdF (Prod.fst y2) (Prod.snd y2)) = (gcdF a b)) ∧ Int.natAbs (Prod.snd y2) < Int.natAbs (Prod.snd y1)) ∧ (((true = true) ∧ ((((IntKind.i64) = (IntKind.i64)) ∧ ((Prod.fst y2) = (Prod.snd y1))) ∧ ((((IntKind.i64) = (IntKind.i64)) ∧ ((Prod.snd y2) = (Int.tmod (Prod.fst y1) (Prod.snd y1)))) ∧ True))) ∧ True)))) ∧ (((!decide (Prod.snd y1 = (0 : Int))) = (false)) → False))) ∧ (((decide (Prod.snd y1 = (0 : Int))) = (true)) → (((IntKind.i64) = (IntKind.i64)) ∧ ((gcdF a b) = (Prod.fst y1)))))))))) := by kernel_rfl
  refine hvc.mpr ?_
  clear hvc
  clear hf hf1 hf2
  simp
  intro x y hg
  refine ⟨fun h => ⟨fun _ => ⟨by rw [← gcdF_step x h]; exact hg, Nat.mod_lt _ (by omega)⟩, h⟩, fun h => ?_⟩
  subst h
  rw [← hg, gcdF_zero]

def totalS : List PT := [.one (.list [.int .i64])]
def totalC : List FD → Bool
  | [.list _ _ _] => true
  | _ => false
def totalR : List FD → List FD
  | [.list _ na fa] => [.int .i64 (sumF fa na)]
  | _ => []
def totalI (na : Nat) (fa : Nat → Nat → FD) : Nat → AFam := alts (fun _ => [{ι := Nat, G := fun x => x ≤ na, μ := fun x => na - x, tl := fun x => [(3, .one (.int IntKind.i64 (.tm (sumF fa x)))), (6, .one (.fz (.root (0 : Nat) (0 : Nat)) (FD.list [Sh.int IntKind.i64] na fa))), (7, .one (.int IntKind.i64 (.tm (Int.ofNat na)))), (8, .one (.int IntKind.i64 (.tm (Int.ofNat x))))], bl := fun _ => [], nx := 1}])
theorem total_ok : FnOk (mkR sm0 gs0) Try.prog η0 121 (FI.of Try.f121 true) totalS (.one (.int .i64)) totalC totalR := by
  refine fnOk_of0 sm0_ok gs0_ok Try.fok121 (fun fds => match fds with | [.list _ na fa] => totalI na fa | _ => alts fun _ => []) ?_
  intro fds hf hc
  obtain ⟨na, fa, ds0, rfl, ga, hf1⟩ := hf.list
  obtain rfl := hf1.nil
  have hc : (true) = true := hc
  have hvc : (vcF sm0 gs0 (FI.of Try.f121 true) totalS (.one (.int .i64)) (totalI na fa) noR [.list [.int .i64] na fa] (totalR [.list [.int .i64] na fa])) =
    ((true = true) ∧ (∃ y0 : Nat, ((∃ y1 : Nat, ((y1 ≤ na ∧ True) ∧ (((true = true) ∧ ((((IntKind.i64) = (IntKind.i64)) ∧ ((sumF fa y1) = ((0 : Int)))) ∧ ((((Ref.root (0) (0)) = (Ref.root (0) (0))) ∧ (((FD.list [Sh.int IntKind.i64] na fa) = (FD.list [Sh.int IntKind.i64] na fa)) ∧ (true = true))) ∧ ((((IntKind.i64) = (IntKind.i64)) ∧ ((Int.ofNat na) = (Int.ofNat na))) ∧ ((((IntKind.i64) = (IntKind.i64)) ∧ ((Int.ofNat y1) = ((0 : Int)))) ∧ True))))) ∧ True))) ∧ (∀ y1 : Nat, (y1 ≤ na → ((((decide (Int.ofNat y1 < Int.ofNat na)) = (true)) → ((((decide ((0 : Int) ≤ Int.ofNat y1) && decide (Int.ofNat y1 < (↑na : Int))) = (true)) → (∃ y2 : Nat, ((y2 ≤ na ∧ na - y2 < na - y1) ∧ (((true = true) ∧ ((((IntKind.i64) = (IntKind.i64)) ∧ ((sumF fa y2) = (IntKind.wrap IntKind.i64 (sumF fa y1 + FD.i (fa (Int.toNat (Int.ofNat y1)) (0 : Nat)))))) ∧ ((((Ref.root (0) (0)) = (Ref.root (0) (0))) ∧ (((FD.list [Sh.int IntKind.i64] na fa) = (FD.list [Sh.int IntKind.i64] na fa)) ∧ (true = true))) ∧ ((((IntKind.i64) = (IntKind.i64)) ∧ ((Int.ofNat na) = (Int.ofNat na))) ∧ ((((IntKind.i64) = (IntKind.i64)) ∧ ((Int.ofNat y2) = (IntKind.wrap IntKind.i64 (Int.ofNat y1 + (1 : Int))))) ∧ True))))) ∧ True)))) ∧ (((decide ((0 : Int) ≤ Int.ofNat y1) && decide (Int.ofNat y1 < (↑na : Int))) = (false)) → False))) ∧ (((decide (Int.ofNat y1 < Int.ofNat na)) = (false)) → (((IntKind.i64) = (IntKind.i64)) ∧ ((sumF fa na) = (sumF fa y1)))))))))) := by kernel_rfl
  refine hvc.mpr ?_
  clear hvc
  have hl := ga.len
  have hl' : maxLen = 9223372036854775807 := rfl
  simp
  refine ⟨rfl, fun x hx => ⟨fun h => ⟨fun _ => ⟨x + 1, ⟨by omega, by omega⟩, rfl, ?_⟩, h⟩, fun h => by rw [show x = na by omega]⟩⟩
  rw [wrap_id (by omega) (by omega)]; rfl

def atS : List PT := [.agg [.int .i64, .int .i64, .int .i64, .int .i64, .int .i64, .int .i64], .one (.int .i64)]
def atC : List FD → Bool
  | [.int _ st, .int _ pl, .int _ ho, .int _ _, .int _ _, .int _ _, .int _ _] => !decide (pl = 0) && (!decide (st = 0) && !decide (ho = 0))
  | _ => false
def atR : List FD → List FD
  | [.int _ st, .int _ pl, .int _ ho, .int _ ge, .int _ p, .int _ h, .int _ s] => [.int .i64 (Int.tmod (wrapI (s + wrapI (p * wrapI (st.tdiv pl)))) st), .int .i64 (Int.tmod (wrapI (h + wrapI (ge * s))) ho)]
  | _ => []
def atI (_st : Int) (_pl : Int) (_ho : Int) (_ge : Int) (_p : Int) (_h : Int) (_s : Int) : Nat → AFam := alts (fun _ => [])
theorem at_ok : FnOk (mkR sm0 gs0) Try.prog η0 115 (FI.of Try.f115 true) atS (.tup [.one (.int .i64), .one (.int .i64)]) atC atR := by
  refine fnOk_of0 sm0_ok gs0_ok Try.fok115 (fun fds => match fds with | [.int _ st, .int _ pl, .int _ ho, .int _ ge, .int _ p, .int _ h, .int _ s] => atI st pl ho ge p h s | _ => alts fun _ => []) ?_
  intro fds hf hc
  obtain ⟨st, ds0, rfl, hf1⟩ := hf.int
  obtain ⟨pl, ds1, rfl, hf2⟩ := hf1.int
  obtain ⟨ho, ds2, rfl, hf3⟩ := hf2.int
  obtain ⟨ge, ds3, rfl, hf4⟩ := hf3.int
  obtain ⟨p, ds4, rfl, hf5⟩ := hf4.int
  obtain ⟨h, ds5, rfl, hf6⟩ := hf5.int
  obtain ⟨s, ds6, rfl, hf7⟩ := hf6.int
  obtain rfl := hf7.nil
  have hc : (!decide (pl = 0) && (!decide (st = 0) && !decide (ho = 0))) = true := hc
  have hvc : (vcF sm0 gs0 (FI.of Try.f115 true) atS (.tup [.one (.int .i64), .one (.int .i64)]) (atI st pl ho ge p h s) noR [.int .i64 st, .int .i64 pl, .int .i64 ho, .int .i64 ge, .int .i64 p, .int .i64 h, .int .i64 s] (atR [.int .i64 st, .int .i64 pl, .int .i64 ho, .int .i64 ge, .int .i64 p, .int .i64 h, .int .i64 s])) =
    ((true = true) ∧ ((((!decide (pl = (0 : Int))) = (true)) → ((((!decide (st = (0 : Int))) = (true)) → ((((!decide (ho = (0 : Int))) = (true)) → ((((IntKind.i64) = (IntKind.i64)) ∧ ((Int.tmod (wrapI (s + wrapI (p * wrapI (Int.tdiv st pl)))) st) = (Int.tmod (IntKind.wrap IntKind.i64 (s + IntKind.wrap IntKind.i64 (p * IntKind.wrap IntKind.i64 (Int.tdiv st pl)))) st))) ∧ ((((IntKind.i64) = (IntKind.i64)) ∧ ((Int.tmod (wrapI (h + wrapI (ge * s))) ho) = (Int.tmod (IntKind.wrap IntKind.i64 (h + IntKind.wrap IntKind.i64 (ge * s))) ho))) ∧ True))) ∧ (((!decide (ho = (0 : Int))) = (false)) → False))) ∧ (((!decide (st = (0 : Int))) = (false)) → False))) ∧ (((!decide (pl = (0 : Int))) = (false)) → False))) := by kernel_rfl
  refine hvc.mpr ?_
  clear hvc
  simp only [Bool.and_eq_true, Bool.not_eq_true', decide_eq_false_iff_not] at hc
  simp [hc]
  exact ⟨rfl, rfl⟩
end
end Go.Ex


namespace Go.Ex
open Go Go.Proofs Go.RowKit Go.Shelf
attribute [local go_sem] Oper.semAt_some
noncomputable section

def nilE : Emb := ⟨fun _ => none, fun _ _ => none, fun _ _ => none, fun _ => none, ⟨[], fun _ _ => none⟩, fun _ _ => none⟩
theorem nilE_zw (w : World) : ZW nilE w := fun _ _ _ h => by cases h
theorem gives_calls {f : FuncId} {fi : FI} (hF : FI.Ok Try.prog f fi) {ags : Array Value} {w : World} {v : Value} (h : Gives Try.prog f ags w v) : Calls Try.prog f ags w fun e w' => e = .returned v ∧ Below w.heap.size w w' := by
  rcases h with h | ⟨_, h⟩
  · rw [run_callFunc hF] at h; cases h
  · exact h
theorem at_calls (st pl ho ge p h s : Int) (h1 : pl ≠ 0) (h2 : st ≠ 0) (h3 : ho ≠ 0) (w : World) : Calls Try.prog 115 #[.agg #[.int .i64 st, .int .i64 pl, .int .i64 ho, .int .i64 ge, .int .i64 p, .int .i64 h], .int .i64 s] w fun e w' =>
    e = .returned (.tuple #[.int .i64 (Int.tmod (wrapI (s + wrapI (p * wrapI (st.tdiv pl)))) st), .int .i64 (Int.tmod (wrapI (h + wrapI (ge * s))) ho)]) ∧ Below w.heap.size w w' := by
  have hs := smOk_of sm0_ok gs0_ok at_ok rfl [.agg [.int .i64 (.tm st), .int .i64 (.tm pl), .int .i64 (.tm ho), .int .i64 (.tm ge), .int .i64 (.tm p), .int .i64 (.tm h)], .one (.int .i64 (.tm s))] []
    (resS (.tup [.one (.int .i64), .one (.int .i64)]) [.int .i64 (Int.tmod (wrapI (s + wrapI (p * wrapI (st.tdiv pl)))) st), .int .i64 (Int.tmod (wrapI (h + wrapI (ge * s))) ho)]) [] ?_ (fun x hx => by cases hx)
  · obtain ⟨v, e1, e2⟩ := hs.2 nilE [.agg #[.int .i64 st, .int .i64 pl, .int .i64 ho, .int .i64 ge, .int .i64 p, .int .i64 h], .int .i64 s] w (nilE_zw w) rfl
    cases e1
    exact gives_calls Try.fok115 e2
  · show Tree.at_ η0 (chk (!decide (pl = 0) && (!decide (st = 0) && !decide (ho = 0))) _) = _
    simp only [chk, Tree.at_, Atom.den, h1, h2, h3, decide_false, Bool.not_false, Bool.and_self, if_true]
    rfl

theorem wrapI_nat {k : Nat} (h : k ≤ 9223372036854775807) : wrapI (k : Int) = k := wrap_id (by omega) (by omega)
theorem at_nice (st pl ho ge p h s : Nat) (hpl : 0 < pl) (b1 : st ≤ 1000) (b2 : p ≤ 1000) (b3 : h ≤ 1000) (b4 : ge ≤ 1000) (b5 : s ≤ 1000000000000) :
    Int.tmod (wrapI ((s : Int) + wrapI ((p : Int) * wrapI ((st : Int).tdiv pl)))) st = (((s + p * (st / pl)) % st : Nat) : Int) ∧ Int.tmod (wrapI ((h : Int) + wrapI ((ge : Int) * s))) ho = (((h + ge * s) % ho : Nat) : Int) := by
  have e1 : (st : Int).tdiv pl = ((st / pl : Nat) : Int) := by rw [Int.tdiv_eq_ediv_of_nonneg (by omega)]; exact (Int.natCast_ediv st pl).symm
  have h1 : st / pl ≤ 1000 := Nat.le_trans (Nat.div_le_self _ _) b1
  have h2 : p * (st / pl) ≤ 1000 * 1000 := Nat.mul_le_mul b2 h1
  have h3 : ge * s ≤ 1000 * 1000000000000 := Nat.mul_le_mul b4 b5
  rw [e1, wrapI_nat (by omega)]
  rw [show (p : Int) * ((st / pl : Nat) : Int) = ((p * (st / pl) : Nat) : Int) by rw [Int.natCast_mul], show (ge : Int) * (s : Int) = ((ge * s : Nat) : Int) by rw [Int.natCast_mul]]
  rw [wrapI_nat (by omega), wrapI_nat (by omega)]
  rw [show (s : Int) + ((p * (st / pl) : Nat) : Int) = ((s + p * (st / pl) : Nat) : Int) by omega, show (h : Int) + ((ge * s : Nat) : Int) = ((h + ge * s : Nat) : Int) by omega]
  rw [wrapI_nat (by omega), wrapI_nat (by omega)]
  rw [Int.tmod_eq_emod_of_nonneg (by omega), Int.tmod_eq_emod_of_nonneg (by omega)]
  exact ⟨(Int.natCast_emod _ _).symm, (Int.natCast_emod _ _).symm⟩
def riderV (st pl ho ge p h : Nat) : List Value := [.int .i64 (st : Int), .int .i64 (pl : Int), .int .i64 (ho : Int), .int .i64 (ge : Int), .int .i64 (p : Int), .int .i64 (h : Int)]
def placesL (st pl ge p h n : Nat) : List (Nat × Nat) := (List.range n).map fun s => (s + p * (st / pl), h + ge * s)
def intV : Value → Nat
  | .int _ n => n.toNat
  | _ => 0
theorem places_iter (st pl ho ge p h n : Nat) (hst : 0 < st) (hpl : 0 < pl) (hho : 0 < ho) (b1 : st ≤ 1000) (b2 : p ≤ 1000) (b3 : h ≤ 1000) (b4 : ge ≤ 1000) (b5 : n ≤ 1000000000000) :
    IterOk Try.prog 142 [[.int .i64 (n : Int)], riderV st pl ho ge p h] (fun x : Nat × Nat => [.int .i64 ((x.1 % st : Nat) : Int), .int .i64 ((x.2 % ho : Nat) : Int)]) (placesL st pl ge p h n) := by
  refine ⟨fun ags w => run_callFunc Try.fok142 ags w, fun Bs W0 N hN hBl hCH l J Jx W hb hJ hJx hY h0 => ?_⟩
  match Bs, hBl with
  | [c1, c2], _ =>
    have hcell : ∀ (i B : Nat) (vs : List Value) (o : Nat) (v : Value), [c1, c2][i]? = some B → [[Value.int .i64 (n : Int)], riderV st pl ho ge p h][i]? = some vs → vs[o]? = some v → W.cell? ⟨B, o, none⟩ = some v := fun i B vs o v h1 h2 h3 => by
      have := hCH i B vs o v h1 h2 h3
      have hlt : B < W0.heap.size := by
        obtain ⟨o', ho', _⟩ := cells_of_cell this
        exact (Array.getElem?_eq_some_iff.1 ho').1
      exact (hb.cell (p := ⟨B, o, none⟩) hlt).trans this
    have q1 : W.cell? ⟨c1, 0, none⟩ = some (.int .i64 (n : Int)) := hcell 0 c1 _ 0 _ rfl rfl rfl
    obtain ⟨F, hFe⟩ : ∃ F, F = FW none := ⟨_, rfl⟩
    have hFn : ∀ f, F.fn f := fun f => by rw [hFe]; trivial
    have hro : F.round = none := by rw [hFe]; rfl
    have hat : ∀ (s : Nat), s ≤ 1000000000000 → ∀ (k : Nat) (w : World), CallsIn F k Try.prog 115 #[.agg #[.int .i64 (st : Int), .int .i64 (pl : Int), .int .i64 (ho : Int), .int .i64 (ge : Int), .int .i64 (p : Int), .int .i64 (h : Int)], .int .i64 (s : Int)] w fun e w' =>
        e = .returned (.tuple #[.int .i64 (((s + p * (st / pl)) % st : Nat) : Int), .int .i64 (((h + ge * s) % ho : Nat) : Int)]) ∧ Below w.heap.size w w' := fun s hs k w => by
      rw [hFe]
      have := at_calls st pl ho ge p h s (by omega) (by omega) (by omega) w
      obtain ⟨e1, e2⟩ := at_nice st pl ho ge p h s hpl b1 b2 b3 b4 hs
      rw [e1, e2] at this
      exact callsIn_wide.2 this
    rw [← hFe] at hY ⊢
    clear hFe
    have h115 := hFn 115
    have hN1 : 1 ≤ N := by omega
    have hN2 : 1 ≤ N - 1 := by omega
    have h142 := hFn 142
    refine callsIn_of_wp Try.func142 rfl h142 ?_ hro
    simp only [Try.ntmps142, List.map_cons, List.map_nil, List.size_toArray, List.length_cons, List.length_nil, Nat.reduceAdd, Nat.reduceSub, Array.replicate_succ, Array.replicate_zero, List.push_toArray, List.append_toArray, List.nil_append, List.cons_append]
    have hCW : CellsHold [c1, c2] [[.int .i64 (n : Int)], riderV st pl ho ge p h] W := hcell
    gi_wp2
    gi_loopw [6] (fun v wr => ∃ s : Nat, s ≤ n ∧ v = .int .i64 (s : Int) ∧ CellsHold [c1, c2] [[.int .i64 (n : Int)], riderV st pl ho ge p h] wr ∧ J ((List.range s).map fun s => (s + p * (st / pl), h + ge * s)) wr) (fun v _ => n - intV v)
    case atStart => exact ⟨0, Nat.zero_le _, rfl, hCW, h0⟩
    case round =>
      obtain ⟨s, hs, rfl, hc, hJs⟩ := hrel
      have r0 : wr.cell? ⟨c2, 0, none⟩ = some (.int .i64 (st : Int)) := hc 1 c2 _ 0 _ rfl rfl rfl
      have r1 : wr.cell? ⟨c2, 1, none⟩ = some (.int .i64 (pl : Int)) := hc 1 c2 _ 1 _ rfl rfl rfl
      have r2 : wr.cell? ⟨c2, 2, none⟩ = some (.int .i64 (ho : Int)) := hc 1 c2 _ 2 _ rfl rfl rfl
      have r3 : wr.cell? ⟨c2, 3, none⟩ = some (.int .i64 (ge : Int)) := hc 1 c2 _ 3 _ rfl rfl rfl
      have r4 : wr.cell? ⟨c2, 4, none⟩ = some (.int .i64 (p : Int)) := hc 1 c2 _ 4 _ rfl rfl rfl
      have r5 : wr.cell? ⟨c2, 5, none⟩ = some (.int .i64 (h : Int)) := hc 1 c2 _ 5 _ rfl rfl rfl
      have hlen : s < n → ((List.range s).map fun s => (s + p * (st / pl), h + ge * s)).length < (placesL st pl ge p h n).length := fun hs => by simp [placesL]; exact hs
      have hkeepJ : ∀ w1, Below wr.heap.size wr w1 → J ((List.range s).map fun s => (s + p * (st / pl), h + ge * s)) w1 := fun w1 hB => hJ _ _ _ none hJs ⟨hB.os, hB.tape, hB.output, hB.size, fun k hk _ => hB.block k hk⟩ (fun r e => by cases e)
      have hkeepC : ∀ w1, Below wr.heap.size wr w1 → CellsHold [c1, c2] [[.int .i64 (n : Int)], riderV st pl ho ge p h] w1 := fun w1 hB i B vs o v h1 h2 h3 => by
        have := hc i B vs o v h1 h2 h3
        obtain ⟨o', ho', _⟩ := cells_of_cell this
        exact (hB.cell (p := ⟨B, o, none⟩) (Array.getElem?_eq_some_iff.1 ho').1).trans this
      gi_wp2_with (gi_at_call 115; refine (hat s (by omega) _ _).mono ?_; rintro e w1 ⟨rfl, hB1⟩; obtain ⟨fn, tmps, assign, body, hy, hR⟩ := hY _ (s + p * (st / pl), h + ge * s) w1 (hkeepJ w1 hB1) (hlen (by assumption)); simp only [Int.natCast_emod, Int.natCast_add, Int.natCast_mul, Int.natCast_ediv] at hy)
      · refine hR.mono ?_
        rintro e W3 (⟨rfl, hJ3, hk3⟩ | ⟨rfl, hJx3⟩)
        · have hc3 := hk3 (hkeepC w1 hB1)
          have hsn : s < n := by assumption
          gi_wp2
          refine ⟨⟨s + 1, by omega, by simp, hc3, ?_⟩, ?_⟩
          · rw [List.range_succ, List.map_append]; exact hJ3
          · simp only [intV]; omega
        · have hsn : s < n := by assumption
          gi_wp2
          refine bodyPost_ret (results_none rfl _ _ _) rfl ?_
          refine ⟨⟨_, rfl⟩, .inr ⟨_, ?_, hJx3⟩⟩
          refine ⟨((List.range (n - (s + 1))).map (s + 1 + ·)).map fun s => (s + p * (st / pl), h + ge * s), ?_⟩
          show _ = (List.range n).map _
          rw [show n = (s + 1) + (n - (s + 1)) by omega, List.range_add, List.map_append, List.range_succ, List.map_append]
          simp
      · have hsn : s = n := by have : ¬ s < n := by assumption
                               omega
        subst hsn
        go_end0
        exact ⟨⟨_, rfl⟩, .inl ⟨_, rfl, hJs⟩⟩

end
end Go.Ex


namespace Go.Ex
open Go Go.Proofs Go.RowKit
noncomputable section

def sm1 : T Smf := (T.set (T.set (T.set (T.set (T.set sm0 88 (some (gFd withinS (.one .bool) withinC withinR))) 91 (some (gFd divisorS (.one (.int .i64)) divisorC divisorR))) 120 (some (gFd dotS (.one (.int .i64)) dotC dotR))) 121 (some (gFd totalS (.one (.int .i64)) totalC totalR))) 115 (some (gFd atS (.tup [.one (.int .i64), .one (.int .i64)]) atC atR)))
theorem sm1_ok : Tab SmOk sm1 := (Tab.set (Tab.set (Tab.set (Tab.set (Tab.set sm0_ok (by kernel_rfl) (smOk_of sm0_ok gs0_ok within_ok rfl)) (by kernel_rfl) (smOk_of sm0_ok gs0_ok divisor_ok rfl)) (by kernel_rfl) (smOk_of sm0_ok gs0_ok dot_ok rfl)) (by kernel_rfl) (smOk_of sm0_ok gs0_ok total_ok rfl)) (by kernel_rfl) (smOk_of sm0_ok gs0_ok at_ok rfl))
def divI (a b : Int) : Int := IntKind.i64.wrap (a.tdiv b)
def perI (st ho ge : Int) : Int := wrapI (divI st (gcdF st (divI ho (gcdF ho ge))) * divI ho (gcdF ho ge))
def periodS : List PT := [.agg [.int .i64, .int .i64, .int .i64, .int .i64]]
def periodC : List FD → Bool
  | [.int _ st, .int _ _, .int _ ho, .int _ ge] => !decide (gcdF ho ge = 0) && !decide (gcdF st (divI ho (gcdF ho ge)) = 0)
  | _ => false
def periodR : List FD → List FD
  | [.int _ st, .int _ _, .int _ ho, .int _ ge] => [.int .i64 (perI st ho ge)]
  | _ => []
def periodI (_st : Int) (_pl : Int) (_ho : Int) (_ge : Int) : Nat → AFam := alts (fun _ => [])
theorem period_ok : FnOk (mkR sm1 gs0) Try.prog η0 100 (FI.of Try.f100 true) periodS (.one (.int .i64)) periodC periodR := by
  refine fnOk_of0 sm1_ok gs0_ok Try.fok100 (fun fds => match fds with | [.int _ st, .int _ pl, .int _ ho, .int _ ge] => periodI st pl ho ge | _ => alts fun _ => []) ?_
  intro fds hf hc
  obtain ⟨st, ds0, rfl, hf1⟩ := hf.int
  obtain ⟨pl, ds1, rfl, hf2⟩ := hf1.int
  obtain ⟨ho, ds2, rfl, hf3⟩ := hf2.int
  obtain ⟨ge, ds3, rfl, hf4⟩ := hf3.int
  obtain rfl := hf4.nil
  have hc : (!decide (gcdF ho ge = 0) && !decide (gcdF st (divI ho (gcdF ho ge)) = 0)) = true := hc
  have hvc : (vcF sm1 gs0 (FI.of Try.f100 true) periodS (.one (.int .i64)) (periodI st pl ho ge) noR [.int .i64 st, .int .i64 pl, .int .i64 ho, .int .i64 ge] (periodR [.int .i64 st, .int .i64 pl, .int .i64 ho, .int .i64 ge])) =
    ((true = true) ∧ (((true = true) → ((((!decide (gcdF ho ge = (0 : Int))) = (true)) → (((true = true) → ((((!decide (gcdF st (IntKind.wrap IntKind.i64 (Int.tdiv ho (gcdF ho ge))) = (0 : Int))) = (true)) → (((IntKind.i64) = (IntKind.i64)) ∧ ((perI st ho ge) = (IntKind.wrap IntKind.i64 (IntKind.wrap IntKind.i64 (Int.tdiv st (gcdF st (IntKind.wrap IntKind.i64 (Int.tdiv ho (gcdF ho ge))))) * IntKind.wrap IntKind.i64 (Int.tdiv ho (gcdF ho ge))))))) ∧ (((!decide (gcdF st (IntKind.wrap IntKind.i64 (Int.tdiv ho (gcdF ho ge))) = (0 : Int))) = (false)) → False))) ∧ ((true = false) → False))) ∧ (((!decide (gcdF ho ge = (0 : Int))) = (false)) → False))) ∧ ((true = false) → False))) := by kernel_rfl
  refine hvc.mpr ?_
  clear hvc
  simp only [Bool.and_eq_true, Bool.not_eq_true', decide_eq_false_iff_not] at hc
  simp [hc]
  exact ⟨fun _ => rfl, hc.2⟩
def sm2 : T Smf := (T.set sm1 100 (some (gFd periodS (.one (.int .i64)) periodC periodR)))
theorem sm2_ok : Tab SmOk sm2 := (Tab.set sm1_ok (by kernel_rfl) (smOk_of sm1_ok gs0_ok period_ok rfl))

/-- A right rack. -/
def rackB (st pl ho ge : Int) : Bool := (decide (1 ≤ st) && decide (st ≤ 24)) && (decide (1 ≤ pl) && decide (pl ≤ 8)) && (decide (1 ≤ ho) && decide (ho ≤ 12)) && (decide (0 ≤ ge) && decide (ge < ho)) && decide (st.tmod pl = 0)
def partB (pl ho p h : Int) : Bool := (decide (0 ≤ p) && decide (p < pl)) && (decide (0 ≤ h) && decide (h < ho))
/-- The rows are there. -/
def rowsB (st ho : Int) (nfl : Nat) (ffl : Nat → Nat → FD) : Bool := Nat.ble st.toNat nfl && natAll (fun i => Nat.ble ho.toNat (ffl i 0).ln) st.toNat

theorem gcdF_nat : ∀ (b a : Nat), gcdF (a : Int) (b : Int) = ((Nat.gcd a b : Nat) : Int) := by
  intro b
  induction b using Nat.strongRecOn with
  | _ b ih =>
    intro a
    rcases Nat.eq_zero_or_pos b with rfl | hb
    · rw [show ((0 : Nat) : Int) = 0 from rfl, gcdF_zero, Nat.gcd_zero_right]
    · rw [gcdF_step _ (by omega), Int.tmod_eq_emod_of_nonneg (by omega), ← Int.natCast_emod, ih (a % b) (Nat.mod_lt _ hb), Nat.gcd_comm b, ← Nat.gcd_rec, Nat.gcd_comm]
theorem divI_nat {a b : Nat} (ha : a ≤ 9223372036854775807) : divI (a : Int) (b : Int) = ((a / b : Nat) : Int) := by
  unfold divI
  rw [Int.tdiv_eq_ediv_of_nonneg (by omega), ← Int.natCast_ediv]
  have : a / b ≤ a := Nat.div_le_self _ _
  generalize a / b = q at this ⊢
  exact wrap_id (by omega) (by omega)
/-- The period. -/
def perN (st ho ge : Nat) : Nat := st / Nat.gcd st (ho / Nat.gcd ho ge) * (ho / Nat.gcd ho ge)
theorem perI_nat {st ho ge : Nat} (h1 : st ≤ 24) (h2 : ho ≤ 12) : perI st ho ge = ((perN st ho ge : Nat) : Int) := by
  unfold perI perN
  have e1 : ho / Nat.gcd ho ge ≤ ho := Nat.div_le_self _ _
  have e2 : st / Nat.gcd st (ho / Nat.gcd ho ge) ≤ st := Nat.div_le_self _ _
  have e3 : st / Nat.gcd st (ho / Nat.gcd ho ge) * (ho / Nat.gcd ho ge) ≤ 24 * 12 := Nat.mul_le_mul (by omega) (by omega)
  rw [gcdF_nat, divI_nat (by omega), gcdF_nat, divI_nat (by omega), ← Int.natCast_mul, wrapI_nat (by omega)]

theorem rack_nat {st pl ho ge : Int} (h : rackB st pl ho ge = true) : ∃ S P H G : Nat, (st = S ∧ pl = P ∧ ho = H ∧ ge = G) ∧ 1 ≤ S ∧ S ≤ 24 ∧ 1 ≤ P ∧ P ≤ 8 ∧ 1 ≤ H ∧ H ≤ 12 ∧ G < H ∧ S % P = 0 := by
  simp only [rackB, Bool.and_eq_true, decide_eq_true_eq] at h
  obtain ⟨⟨⟨⟨⟨a1, a2⟩, a3, a4⟩, a5, a6⟩, a7, a8⟩, a9⟩ := h
  obtain ⟨S, rfl⟩ := Int.eq_ofNat_of_zero_le (show 0 ≤ st by omega)
  obtain ⟨P, rfl⟩ := Int.eq_ofNat_of_zero_le (show 0 ≤ pl by omega)
  obtain ⟨H, rfl⟩ := Int.eq_ofNat_of_zero_le (show 0 ≤ ho by omega)
  obtain ⟨G, rfl⟩ := Int.eq_ofNat_of_zero_le (show 0 ≤ ge by omega)
  refine ⟨S, P, H, G, ⟨rfl, rfl, rfl, rfl⟩, by omega, by omega, by omega, by omega, by omega, by omega, by omega, ?_⟩
  rw [Int.tmod_eq_emod_of_nonneg (by omega), ← Int.natCast_emod] at a9
  omega
theorem part_nat {pl ho p h : Int} (hp : partB pl ho p h = true) : ∃ Q K : Nat, (p = Q ∧ h = K) ∧ (Q : Int) < pl ∧ (K : Int) < ho := by
  simp only [partB, Bool.and_eq_true, decide_eq_true_eq] at hp
  obtain ⟨⟨a1, a2⟩, a3, a4⟩ := hp
  obtain ⟨Q, rfl⟩ := Int.eq_ofNat_of_zero_le a1
  obtain ⟨K, rfl⟩ := Int.eq_ofNat_of_zero_le a3
  exact ⟨Q, K, ⟨rfl, rfl⟩, a2, a4⟩
theorem rows_nat {S H nfl : Nat} {ffl : Nat → Nat → FD} (h : rowsB (S : Int) (H : Int) nfl ffl = true) : S ≤ nfl ∧ ∀ i, i < S → H ≤ (ffl i 0).ln := by
  simp only [rowsB, Bool.and_eq_true, Int.toNat_natCast] at h
  exact ⟨Nat.le_of_ble_eq_true h.1, fun i hi => Nat.le_of_ble_eq_true (natAll_spec h.2 i hi)⟩
theorem turn_pos {H : Nat} (G : Nat) (h : 1 ≤ H) : 0 < H / Nat.gcd H G := Nat.div_pos (Nat.le_of_dvd h (Nat.gcd_dvd_left H G)) (Nat.gcd_pos_of_pos_left G h)
theorem perN_pos {S H : Nat} (G : Nat) (h1 : 1 ≤ S) (h2 : 1 ≤ H) : 0 < perN S H G :=
  Nat.mul_pos (Nat.div_pos (Nat.le_of_dvd h1 (Nat.gcd_dvd_left S _)) (Nat.gcd_pos_of_pos_left _ h1)) (turn_pos G h2)
theorem periodC_nat {S H : Nat} (P G : Nat) (h1 : 1 ≤ S) (h2 : 1 ≤ H) (h3 : H ≤ 12) : periodC [.int .i64 (S : Int), .int .i64 (P : Int), .int .i64 (H : Int), .int .i64 (G : Int)] = true := by
  simp only [periodC, Bool.and_eq_true, Bool.not_eq_true', decide_eq_false_iff_not]
  rw [gcdF_nat, divI_nat (by omega), gcdF_nat]
  have e1 := Nat.gcd_pos_of_pos_left G h2
  have e2 := Nat.gcd_pos_of_pos_left (H / Nat.gcd H G) h1
  exact ⟨by omega, by omega⟩

end
end Go.Ex

