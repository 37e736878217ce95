/-
 Contracts: copies; the document's spread.
-/
import Derived.Test.YtdpabnfcfakjeaaLwAwk
/-
 Contracts: the document's spread.
-/

namespace Go.Ex
open Go Go.Proofs Go.RowKit
noncomputable section
set_option maxRecDepth 1000000

def smB : T Smf := (T.set sm9 18 (some (gFd LD (.one .bool) Q0 LE)))
theorem rQ : Tab fK smB := (Tab.set L4 (by kernel_rfl) (aW QY QZ Q2 rfl))
def uU : List PT := [.one (.list [.int .i64])]
def mA : List FD → Bool
 | [.list _ nl _] => Nat.ble nl 1000000
 | _ => false
def uV : List FD → List FD
 | [.list _ nl fl] => [.list [.int .i64] nl fl]
 | _ => []
def DK (_nl : Nat) (_fl : Nat → Nat → FD) : Nat → b9 := aZ (fun _ => [])
theorem JP : dA (mkR smB gs2) Try.prog η0 20 (FI.of Try.f20 false) uU (.one (.list [.int .i64])) mA uV := by
 refine aM rQ bT Try.fok20 (fun fds => match fds with | [.list _ nl fl] => DK nl fl | _ => aZ fun _ => []) ?_
 intro fds hf hc
 obtain ⟨nl, fl, ds0, rfl, gl, hf1⟩ := hf.list
 obtain rfl := hf1.nil
 have hc : (Nat.ble nl 1000000) = true := hc
 have hvc : (vcF smB gs2 (FI.of Try.f20 false) uU (.one (.list [.int .i64])) (DK nl fl) noR [.list [.int .i64] nl fl] (uV [.list [.int .i64] nl fl])) =
  ((true = true) ∧ ((((true && (true && Nat.ble ((0 : Nat) + nl) (1000000 : Nat))) = (true)) → ((((Nat.beq nl (0 : Nat)) = (true)) → (((1) ≤ (1)) ∧ ((([Sh.int IntKind.i64]) = ([Sh.int IntKind.i64])) ∧ (((0) = (0)) ∧ (((nl) = (0)) ∧ (∀ y0 : Nat, (y0 < (0 : Nat) → (∀ y1 : Nat, (y1 < List.length [Sh.int IntKind.i64] → ((fl y0 y1) = (fl y0 y1))))))))))) ∧ (((Nat.beq nl (0 : Nat)) = (false)) → (((1) ≤ (2)) ∧ ((([Sh.int IntKind.i64]) = ([Sh.int IntKind.i64])) ∧ ((((0 : Nat) + nl) = ((0 : Nat) + nl)) ∧ (((nl) = ((0 : Nat) + nl)) ∧ (∀ y0 : Nat, (y0 < (0 : Nat) + nl → (∀ y1 : Nat, (y1 < List.length [Sh.int IntKind.i64] → ((fl y0 y1) = (fl y0 y1))))))))))))) ∧ (((true && (true && Nat.ble ((0 : Nat) + nl) (1000000 : Nat))) = (false)) → False))) := by kernel_rfl
 refine hvc.mpr ?_
 clear hvc
 have hc := Nat.le_of_ble_eq_true hc
 simp
 exact hc
def F7 : List PT := [.one (.int .i64), .one (.int .i64), .one (.int .i64)]
def NZ : List FD → Bool
 | [.int _ _, .int _ _, .int _ _] => true
 | _ => false
def F8 : List FD → List FD
 | [.int _ a, .int _ b, .int _ c] => [.bool (decide (b ≤ a) && decide (a ≤ c))]
 | _ => []
def N0 (_a : Int) (_b : Int) (_c : Int) : Nat → b9 := aZ (fun _ => [])
theorem PG : dA (mkR smB gs2) Try.prog η0 38 (FI.of Try.f38 true) F7 (.one .bool) NZ F8 := by
 refine aM rQ bT Try.fok38 (fun fds => match fds with | [.int _ a, .int _ b, .int _ c] => N0 a b c | _ => aZ fun _ => []) ?_
 intro fds hf hc
 obtain ⟨a, ds0, rfl, hf1⟩ := hf.int
 obtain ⟨b, ds1, rfl, hf2⟩ := hf1.int
 obtain ⟨c, ds2, rfl, hf3⟩ := hf2.int
 obtain rfl := hf3.nil
 have hc : (true) = true := hc
 have hvc : (vcF smB gs2 (FI.of Try.f38 true) F7 (.one .bool) (N0 a b c) noR [.int .i64 a, .int .i64 b, .int .i64 c] (F8 [.int .i64 a, .int .i64 b, .int .i64 c])) =
  ((true = true) ∧ ((((decide (a < b)) = (true)) → ((decide (b ≤ a) && decide (a ≤ c)) = (false))) ∧ (((decide (a < b)) = (false)) → ((decide (b ≤ a) && decide (a ≤ c)) = (!decide (c < a)))))) := by kernel_rfl
 refine hvc.mpr ?_
 clear hvc
 clear hf hf1 hf2 hf3
 simp
 exact ⟨by omega, fun h => by rw [decide_eq_true h]; simp [← decide_not]⟩
def SB : List PT := [.one (.int .i64)]
def UG : List FD → Bool
 | [.int _ _] => true
 | _ => false
def SC : List FD → List FD
 | [.int _ a] => [.int .i64 (if a < IntKind.i64.wrap (-a) then IntKind.i64.wrap (-a) else a)]
 | _ => []
def UH (_a : Int) : Nat → b9 := aZ (fun _ => [])
theorem TU : dA (mkR smB gs2) Try.prog η0 153 (FI.of Try.f153 true) SB (.one (.int .i64)) UG SC := by
 refine aM rQ bT Try.fok153 (fun fds => match fds with | [.int _ a] => UH a | _ => aZ fun _ => []) ?_
 intro fds hf hc
 obtain ⟨a, ds0, rfl, hf1⟩ := hf.int
 obtain rfl := hf1.nil
 have hc : (true) = true := hc
 have hvc : (vcF smB gs2 (FI.of Try.f153 true) SB (.one (.int .i64)) (UH a) noR [.int .i64 a] (SC [.int .i64 a])) =
  ((true = true) ∧ (((IntKind.i64) = (IntKind.i64)) ∧ ((if a < IntKind.wrap IntKind.i64 (-a) then IntKind.wrap IntKind.i64 (-a) else a) = (if a < IntKind.wrap IntKind.i64 ((0 : Int) - a) then IntKind.wrap IntKind.i64 ((0 : Int) - a) else a)))) := by kernel_rfl
 refine hvc.mpr ?_
 clear hvc
 simp
def smC : T Smf := (T.set (T.set smB 38 (some (gFd F7 (.one .bool) NZ F8))) 153 (some (gFd SB (.one (.int .i64)) UG SC)))
theorem MC : Tab fK smC := (Tab.set (Tab.set rQ (by kernel_rfl) (aW rQ bT PG rfl)) (by kernel_rfl) (aW rQ bT TU rfl))
def W5 : List PT := [.one (.int .i64), .one (.int .i64)]
def Y7 : List FD → Bool
 | [.int _ _, .int _ _] => true
 | _ => false
def W6 : List FD → List FD
 | [.int _ a, .int _ b] => [.int .i64 (if aO a b < IntKind.i64.wrap (-aO a b) then IntKind.i64.wrap (-aO a b) else aO a b)]
 | _ => []
def Y8 (a : Int) (b : Int) : Nat → b9 := aZ (fun _ => [{ι := Int × Int, G := fun x => aO x.1 x.2 = aO a b, μ := fun x => x.2.natAbs, tl := fun x => [(0, .one (.int IntKind.i64 (.tm x.1))), (1, .one (.int IntKind.i64 (.tm x.2)))], bl := fun _ => [], nx := 1}])
theorem W7 : dA (mkR smC gs2) Try.prog η0 140 (FI.of Try.f140 true) W5 (.one (.int .i64)) Y7 W6 := by
 refine aM MC bT Try.fok140 (fun fds => match fds with | [.int _ a, .int _ b] => Y8 a b | _ => aZ fun _ => []) ?_
 intro fds hf hc
 obtain ⟨a, ds0, rfl, hf1⟩ := hf.int
 obtain ⟨b, ds1, rfl, hf2⟩ := hf1.int
 obtain rfl := hf2.nil
 have hc : (true) = true := hc
 have hvc : (vcF smC gs2 (FI.of Try.f140 true) W5 (.one (.int .i64)) (Y8 a b) noR [.int .i64 a, .int .i64 b] (W6 [.int .i64 a, .int .i64 b])) =
  ((true = true) ∧ (∃ y0 : Nat, ((∃ y1 : Int × Int, ((((aO (Prod.fst y1) (Prod.snd y1)) = (aO a b)) ∧ True) ∧ (((true = true) ∧ ((((IntKind.i64) = (IntKind.i64)) ∧ ((Prod.fst y1) = (a))) ∧ ((((IntKind.i64) = (IntKind.i64)) ∧ ((Prod.snd y1) = (b))) ∧ True))) ∧ True))) ∧ (∀ y1 : Int × Int, (((aO (Prod.fst y1) (Prod.snd y1)) = (aO a b)) → ((((decide (Prod.snd y1 = (0 : Int))) = (false)) → ((((!decide (Prod.snd y1 = (0 : Int))) = (true)) → (∃ y2 : Int × Int, ((((aO (Prod.fst y2) (Prod.snd y2)) = (aO a b)) ∧ Int.natAbs (Prod.snd y2) < Int.natAbs (Prod.snd y1)) ∧ (((true = true) ∧ ((((IntKind.i64) = (IntKind.i64)) ∧ ((Prod.fst y2) = (Prod.snd y1))) ∧ ((((IntKind.i64) = (IntKind.i64)) ∧ ((Prod.snd y2) = (Int.tmod (Prod.fst y1) (Prod.snd y1)))) ∧ True))) ∧ True)))) ∧ (((!decide (Prod.snd y1 = (0 : Int))) = (false)) → False))) ∧ (((decide (Prod.snd y1 = (0 : Int))) = (true)) → (((true = true) → (((IntKind.i64) = (IntKind.i64)) ∧ ((if aO a b < IntKind.wrap IntKind.i64 (-aO a b) then IntKind.wrap IntKind.i64 (-aO a b) else aO a b) = (if Prod.fst y1 < IntKind.wrap IntKind.i64 (-Prod.fst y1) then IntKind.wrap IntKind.i64 (-Prod.fst y1) else Prod.fst y1)))) ∧ ((true = false) → False))))))))) := by kernel_rfl
 refine hvc.mpr ?_
 clear hvc
 clear hf hf1 hf2
 simp
 intro x y hg
 refine ⟨fun h => ⟨fun _ => ⟨by rw [← t8 x h]; exact hg, Nat.mod_lt _ (by omega)⟩, h⟩, fun h => ?_⟩
 subst h
 rw [← hg, t7]
end
end Go.Ex


namespace Go.Ex
open Go Go.Proofs Go.RowKit
noncomputable section
set_option maxRecDepth 1000000

def smD : T Smf := (T.set smC 140 (some (gFd W5 (.one (.int .i64)) Y7 W6)))
theorem MD : Tab fK smD := (Tab.set MC (by kernel_rfl) (aW MC bT W7 rfl))
def gs3 : G2 := (G2.setG gs2 20 (gFd uU (.one (.list [.int .i64])) mA uV))
theorem d8 : eT gs3 := (eT.setG bT (by kernel_rfl) (wR rQ bT JP))
def F9 : List PT := [.one (.int .i64), .one (.int .i64)]
def N1 : List FD → Bool
 | [.int _ a, .int _ b] => (decide (0 ≤ a) && decide (a ≤ 1000000000000000)) && (decide (0 < b) && decide (b ≤ 1000000000000000))
 | _ => false
def GA : List FD → List FD
 | [.int _ a, .int _ b] => [.int .i64 (nC a (aO a b)), .int .i64 (nC b (aO a b))]
 | _ => []
def N2 (_a : Int) (_b : Int) : Nat → b9 := aZ (fun _ => [])
theorem PH : dA (mkR smD gs3) Try.prog η0 92 (FI.of Try.f92 true) F9 (.agg [.int .i64, .int .i64]) N1 GA := by
 refine aM MD d8 Try.fok92 (fun fds => match fds with | [.int _ a, .int _ b] => N2 a b | _ => aZ fun _ => []) ?_
 intro fds hf hc
 obtain ⟨a, ds0, rfl, hf1⟩ := hf.int
 obtain ⟨b, ds1, rfl, hf2⟩ := hf1.int
 obtain rfl := hf2.nil
 have hc : ((decide (0 ≤ a) && decide (a ≤ 1000000000000000)) && (decide (0 < b) && decide (b ≤ 1000000000000000))) = true := hc
 have hvc : (vcF smD gs3 (FI.of Try.f92 true) F9 (.agg [.int .i64, .int .i64]) (N2 a b) noR [.int .i64 a, .int .i64 b] (GA [.int .i64 a, .int .i64 b])) =
  ((true = true) ∧ (((true = true) → ((((decide (b < (0 : Int))) = (true)) → ((((!decide (IntKind.wrap IntKind.i64 ((0 : Int) - if aO a b < IntKind.wrap IntKind.i64 (-aO a b) then IntKind.wrap IntKind.i64 (-aO a b) else aO a b) = (0 : Int))) = (true)) → ((((!decide (IntKind.wrap IntKind.i64 ((0 : Int) - if aO a b < IntKind.wrap IntKind.i64 (-aO a b) then IntKind.wrap IntKind.i64 (-aO a b) else aO a b) = (0 : Int))) = (true)) → ((((IntKind.i64) = (IntKind.i64)) ∧ ((nC a (aO a b)) = (IntKind.wrap IntKind.i64 (Int.tdiv a (IntKind.wrap IntKind.i64 ((0 : Int) - if aO a b < IntKind.wrap IntKind.i64 (-aO a b) then IntKind.wrap IntKind.i64 (-aO a b) else aO a b)))))) ∧ ((((IntKind.i64) = (IntKind.i64)) ∧ ((nC b (aO a b)) = (IntKind.wrap IntKind.i64 (Int.tdiv b (IntKind.wrap IntKind.i64 ((0 : Int) - if aO a b < IntKind.wrap IntKind.i64 (-aO a b) then IntKind.wrap IntKind.i64 (-aO a b) else aO a b)))))) ∧ True))) ∧ (((!decide (IntKind.wrap IntKind.i64 ((0 : Int) - if aO a b < IntKind.wrap IntKind.i64 (-aO a b) then IntKind.wrap IntKind.i64 (-aO a b) else aO a b) = (0 : Int))) = (false)) → False))) ∧ (((!decide (IntKind.wrap IntKind.i64 ((0 : Int) - if aO a b < IntKind.wrap IntKind.i64 (-aO a b) then IntKind.wrap IntKind.i64 (-aO a b) else aO a b) = (0 : Int))) = (false)) → False))) ∧ (((decide (b < (0 : Int))) = (false)) → ((((!decide ((if aO a b < IntKind.wrap IntKind.i64 (-aO a b) then IntKind.wrap IntKind.i64 (-aO a b) else aO a b) = (0 : Int))) = (true)) → ((((!decide ((if aO a b < IntKind.wrap IntKind.i64 (-aO a b) then IntKind.wrap IntKind.i64 (-aO a b) else aO a b) = (0 : Int))) = (true)) → ((((IntKind.i64) = (IntKind.i64)) ∧ ((nC a (aO a b)) = (IntKind.wrap IntKind.i64 (Int.tdiv a (if aO a b < IntKind.wrap IntKind.i64 (-aO a b) then IntKind.wrap IntKind.i64 (-aO a b) else aO a b))))) ∧ ((((IntKind.i64) = (IntKind.i64)) ∧ ((nC b (aO a b)) = (IntKind.wrap IntKind.i64 (Int.tdiv b (if aO a b < IntKind.wrap IntKind.i64 (-aO a b) then IntKind.wrap IntKind.i64 (-aO a b) else aO a b))))) ∧ True))) ∧ (((!decide ((if aO a b < IntKind.wrap IntKind.i64 (-aO a b) then IntKind.wrap IntKind.i64 (-aO a b) else aO a b) = (0 : Int))) = (false)) → False))) ∧ (((!decide ((if aO a b < IntKind.wrap IntKind.i64 (-aO a b) then IntKind.wrap IntKind.i64 (-aO a b) else aO a b) = (0 : Int))) = (false)) → False))))) ∧ ((true = false) → False))) := by kernel_rfl
 refine hvc.mpr ?_
 clear hvc
 simp only [Bool.and_eq_true, decide_eq_true_eq] at hc
 obtain ⟨A, rfl⟩ := Int.eq_ofNat_of_zero_le hc.1.1
 obtain ⟨B, rfl⟩ := Int.eq_ofNat_of_zero_le (show 0 ≤ b by omega)
 have g1 := Nat.gcd_pos_of_pos_right A (show 0 < B by omega)
 have g2 := Nat.gcd_le_right A (show 0 < B by omega)
 simp only [lV]
 generalize Nat.gcd A B = g at *
 have e : (if (g : Int) < IntKind.i64.wrap (-(g : Int)) then IntKind.i64.wrap (-(g : Int)) else (g : Int)) = g := by
  rw [aQ (by omega) (by omega), if_neg (by omega)]
 have e0 : ¬ g = 0 := by omega
 have e1 : ¬ (B : Int) < 0 := by omega
 simp [e, e0, e1, nC]
def smE : T Smf := (T.set smD 92 (some (gFd F9 (.agg [.int .i64, .int .i64]) N1 GA)))
theorem BL : Tab fK smE := (Tab.set MD (by kernel_rfl) (aW MD d8 PH rfl))
end
end Go.Ex

