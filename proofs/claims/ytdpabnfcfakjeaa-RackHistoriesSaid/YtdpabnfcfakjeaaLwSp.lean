/-
  Contracts: copies; the document's spread.
-/
/-
  Contracts: the document's spread.
-/
import Derived.Test.YtdpabnfcfakjeaaLwAwk

namespace Go.Ex
open Go Go.Proofs Go.RowKit
noncomputable section
set_option maxRecDepth 1000000

def smB : T Smf := (T.set sm9 18 (some (gFd awakeS (.one .bool) awakeC awakeR)))
theorem smB_ok : Tab SmOk smB := (Tab.set sm9_ok (by kernel_rfl) (smOk_of smA_ok gsA_ok awake_ok rfl))
def copyIntsS : List PT := [.one (.list [.int .i64])]
def copyIntsC : List FD → Bool
  | [.list _ nl _] => Nat.ble nl 1000000
  | _ => false
def copyIntsR : List FD → List FD
  | [.list _ nl fl] => [.list [.int .i64] nl fl]
  | _ => []
def copyIntsI (_nl : Nat) (_fl : Nat → Nat → FD) : Nat → AFam := alts (fun _ => [])
theorem copyInts_ok : FnOk (mkR smB gs2) Try.prog η0 20 (FI.of Try.f20 false) copyIntsS (.one (.list [.int .i64])) copyIntsC copyIntsR := by
  refine fnOk_of0 smB_ok gs2_ok Try.fok20 (fun fds => match fds with | [.list _ nl fl] => copyIntsI nl fl | _ => alts fun _ => []) ?_
  intro fds hf hc
  obtain ⟨nl, fl, ds0, rfl, gl, hf1⟩ := hf.list
  obtain rfl := hf1.nil
  have hc : (Nat.ble nl 1000000) = true := hc
  have hvc : (vcF smB gs2 (FI.of Try.f20 false) copyIntsS (.one (.list [.int .i64])) (copyIntsI nl fl) noR [.list [.int .i64] nl fl] (copyIntsR [.list [.int .i64] nl fl])) =
    ((true = true) ∧ ((((true && (true && Nat.ble ((0 : Nat) + nl) (1000000 : Nat))) = (true)) → ((((Nat.beq nl (0 : Nat)) = (true)) → (((1) ≤ (1)) ∧ ((([Sh.int IntKind.i64]) = ([Sh.int IntKind.i64])) ∧ (((0) = (0)) ∧ (((nl) = (0)) ∧ (∀ y0 : Nat, (y0 < (0 : Nat) → (∀ y1 : Nat, (y1 < List.length [Sh.int IntKind.i64] → ((fl y0 y1) = (fl y0 y1))))))))))) ∧ (((Nat.beq nl (0 : Nat)) = (false)) → (((1) ≤ (2)) ∧ ((([Sh.int IntKind.i64]) = ([Sh.int IntKind.i64])) ∧ ((((0 : Nat) + nl) = ((0 : Nat) + nl)) ∧ (((nl) = ((0 : Nat) + nl)) ∧ (∀ y0 : Nat, (y0 < (0 : Nat) + nl → (∀ y1 : Nat, (y1 < List.length [Sh.int IntKind.i64] → ((fl y0 y1) = (fl y0 y1))))))))))))) ∧ (((true && (true && Nat.ble ((0 : Nat) + nl) (1000000 : Nat))) = (false)) → False))) := by kernel_rfl
  refine hvc.mpr ?_
  clear hvc
  have hc := Nat.le_of_ble_eq_true hc
  simp
  exact hc
def WithinS : List PT := [.one (.int .i64), .one (.int .i64), .one (.int .i64)]
def WithinC : List FD → Bool
  | [.int _ _, .int _ _, .int _ _] => true
  | _ => false
def WithinR : List FD → List FD
  | [.int _ a, .int _ b, .int _ c] => [.bool (decide (b ≤ a) && decide (a ≤ c))]
  | _ => []
def WithinI (_a : Int) (_b : Int) (_c : Int) : Nat → AFam := alts (fun _ => [])
theorem Within_ok : FnOk (mkR smB gs2) Try.prog η0 38 (FI.of Try.f38 true) WithinS (.one .bool) WithinC WithinR := by
  refine fnOk_of0 smB_ok gs2_ok Try.fok38 (fun fds => match fds with | [.int _ a, .int _ b, .int _ c] => WithinI a b c | _ => alts fun _ => []) ?_
  intro fds hf hc
  obtain ⟨a, ds0, rfl, hf1⟩ := hf.int
  obtain ⟨b, ds1, rfl, hf2⟩ := hf1.int
  obtain ⟨c, ds2, rfl, hf3⟩ := hf2.int
  obtain rfl := hf3.nil
  have hc : (true) = true := hc
  have hvc : (vcF smB gs2 (FI.of Try.f38 true) WithinS (.one .bool) (WithinI a b c) noR [.int .i64 a, .int .i64 b, .int .i64 c] (WithinR [.int .i64 a, .int .i64 b, .int .i64 c])) =
    ((true = true) ∧ ((((decide (a < b)) = (true)) → ((decide (b ≤ a) && decide (a ≤ c)) = (false))) ∧ (((decide (a < b)) = (false)) → ((decide (b ≤ a) && decide (a ≤ c)) = (!decide (c < a)))))) := by kernel_rfl
  refine hvc.mpr ?_
  clear hvc
  clear hf hf1 hf2 hf3
  simp
  exact ⟨by omega, fun h => by rw [decide_eq_true h]; simp [← decide_not]⟩
def SizeS : List PT := [.one (.int .i64)]
def SizeC : List FD → Bool
  | [.int _ _] => true
  | _ => false
def SizeR : List FD → List FD
  | [.int _ a] => [.int .i64 (if a < IntKind.i64.wrap (-a) then IntKind.i64.wrap (-a) else a)]
  | _ => []
def SizeI (_a : Int) : Nat → AFam := alts (fun _ => [])
theorem Size_ok : FnOk (mkR smB gs2) Try.prog η0 153 (FI.of Try.f153 true) SizeS (.one (.int .i64)) SizeC SizeR := by
  refine fnOk_of0 smB_ok gs2_ok Try.fok153 (fun fds => match fds with | [.int _ a] => SizeI a | _ => alts fun _ => []) ?_
  intro fds hf hc
  obtain ⟨a, ds0, rfl, hf1⟩ := hf.int
  obtain rfl := hf1.nil
  have hc : (true) = true := hc
  have hvc : (vcF smB gs2 (FI.of Try.f153 true) SizeS (.one (.int .i64)) (SizeI a) noR [.int .i64 a] (SizeR [.int .i64 a])) =
    ((true = true) ∧ (((IntKind.i64) = (IntKind.i64)) ∧ ((if a < IntKind.wrap IntKind.i64 (-a) then IntKind.wrap IntKind.i64 (-a) else a) = (if a < IntKind.wrap IntKind.i64 ((0 : Int) - a) then IntKind.wrap IntKind.i64 ((0 : Int) - a) else a)))) := by kernel_rfl
  refine hvc.mpr ?_
  clear hvc
  simp
def smC : T Smf := (T.set (T.set smB 38 (some (gFd WithinS (.one .bool) WithinC WithinR))) 153 (some (gFd SizeS (.one (.int .i64)) SizeC SizeR)))
theorem smC_ok : Tab SmOk smC := (Tab.set (Tab.set smB_ok (by kernel_rfl) (smOk_of smB_ok gs2_ok Within_ok rfl)) (by kernel_rfl) (smOk_of smB_ok gs2_ok Size_ok rfl))
def GcdS : List PT := [.one (.int .i64), .one (.int .i64)]
def GcdC : List FD → Bool
  | [.int _ _, .int _ _] => true
  | _ => false
def GcdR : List FD → List FD
  | [.int _ a, .int _ b] => [.int .i64 (if gcdF a b < IntKind.i64.wrap (-gcdF a b) then IntKind.i64.wrap (-gcdF a b) else gcdF a b)]
  | _ => []
def GcdI (a : Int) (b : Int) : Nat → AFam := alts (fun _ => [{ι := Int × Int, G := fun x => gcdF x.1 x.2 = gcdF a b, μ := fun x => x.2.natAbs, tl := fun x => [(0, .one (.int IntKind.i64 (.tm x.1))), (1, .one (.int IntKind.i64 (.tm x.2)))], bl := fun _ => [], nx := 1}])
theorem Gcd_ok : FnOk (mkR smC gs2) Try.prog η0 140 (FI.of Try.f140 true) GcdS (.one (.int .i64)) GcdC GcdR := by
  refine fnOk_of0 smC_ok gs2_ok Try.fok140 (fun fds => match fds with | [.int _ a, .int _ b] => GcdI a b | _ => alts fun _ => []) ?_
  intro fds hf hc
  obtain ⟨a, ds0, rfl, hf1⟩ := hf.int
  obtain ⟨b, ds1, rfl, hf2⟩ := hf1.int
  obtain rfl := hf2.nil
  have hc : (true) = true := hc
  have hvc : (vcF smC gs2 (FI.of Try.f140 true) GcdS (.one (.int .i64)) (GcdI a b) noR [.int .i64 a, .int .i64 b] (GcdR [.int .i64 a, .int .i64 b])) =
    ((true = true) ∧ (∃ y0 : Nat, ((∃ y1 : Int × Int, ((((gcdF (Prod.fst y1) (Prod.snd y1)) = (gcdF a b)) ∧ True) ∧ (((true = true) ∧ ((((IntKind.i64) = (IntKind.i64)) ∧ ((Prod.fst y1) = (a))) ∧ ((((IntKind.i64) = (IntKind.i64)) ∧ ((Prod.snd y1) = (b))) ∧ True))) ∧ True))) ∧ (∀ y1 : Int × Int, (((gcdF (Prod.fst y1) (Prod.snd y1)) = (gcdF a b)) → ((((decide (Prod.snd y1 = (0 : Int))) = (false)) → ((((!decide (Prod.snd y1 = (0 : Int))) = (true)) → (∃ y2 : Int × Int, ((((gcdF (Prod.fst y2) (Prod.snd y2)) = (gcdF a b)) ∧ Int.natAbs (Prod.snd y2) < Int.natAbs (Prod.snd y1)) ∧ (((true = true) ∧ ((((IntKind.i64) = (IntKind.i64)) ∧ ((Prod.fst y2) = (Prod.snd y1))) ∧ ((((IntKind.i64) = (IntKind.i64)) ∧ ((Prod.snd y2) = (Int.tmod (Prod.fst y1) (Prod.snd y1)))) ∧ True))) ∧ True)))) ∧ (((!decide (Prod.snd y1 = (0 : Int))) = (false)) → False))) ∧ (((decide (Prod.snd y1 = (0 : Int))) = (true)) → (((true = true) → (((IntKind.i64) = (IntKind.i64)) ∧ ((if gcdF a b < IntKind.wrap IntKind.i64 (-gcdF a b) then IntKind.wrap IntKind.i64 (-gcdF a b) else gcdF a b) = (if Prod.fst y1 < IntKind.wrap IntKind.i64 (-Prod.fst y1) then IntKind.wrap IntKind.i64 (-Prod.fst y1) else Prod.fst y1)))) ∧ ((true = false) → False))))))))) := by kernel_rfl
  refine hvc.mpr ?_
  clear hvc
  clear hf hf1 hf2
  simp
  intro x y hg
  refine ⟨fun h => ⟨fun _ => ⟨by rw [← gcdF_step x h]; exact hg, Nat.mod_lt _ (by omega)⟩, h⟩, fun h => ?_⟩
  subst h
  rw [← hg, gcdF_zero]
end
end Go.Ex


namespace Go.Ex
open Go Go.Proofs Go.RowKit
noncomputable section
set_option maxRecDepth 1000000

def smD : T Smf := (T.set smC 140 (some (gFd GcdS (.one (.int .i64)) GcdC GcdR)))
theorem smD_ok : Tab SmOk smD := (Tab.set smC_ok (by kernel_rfl) (smOk_of smC_ok gs2_ok Gcd_ok rfl))
def gs3 : G2 := (G2.setG gs2 20 (gFd copyIntsS (.one (.list [.int .i64])) copyIntsC copyIntsR))
theorem gs3_ok : G2Ok gs3 := (G2Ok.setG gs2_ok (by kernel_rfl) (gsOk_of smB_ok gs2_ok copyInts_ok))
def LowestS : List PT := [.one (.int .i64), .one (.int .i64)]
def LowestC : List FD → Bool
  | [.int _ a, .int _ b] => (decide (0 ≤ a) && decide (a ≤ 1000000000000000)) && (decide (0 < b) && decide (b ≤ 1000000000000000))
  | _ => false
def LowestR : List FD → List FD
  | [.int _ a, .int _ b] => [.int .i64 (divF a (gcdF a b)), .int .i64 (divF b (gcdF a b))]
  | _ => []
def LowestI (_a : Int) (_b : Int) : Nat → AFam := alts (fun _ => [])
theorem Lowest_ok : FnOk (mkR smD gs3) Try.prog η0 92 (FI.of Try.f92 true) LowestS (.agg [.int .i64, .int .i64]) LowestC LowestR := by
  refine fnOk_of0 smD_ok gs3_ok Try.fok92 (fun fds => match fds with | [.int _ a, .int _ b] => LowestI a b | _ => alts fun _ => []) ?_
  intro fds hf hc
  obtain ⟨a, ds0, rfl, hf1⟩ := hf.int
  obtain ⟨b, ds1, rfl, hf2⟩ := hf1.int
  obtain rfl := hf2.nil
  have hc : ((decide (0 ≤ a) && decide (a ≤ 1000000000000000)) && (decide (0 < b) && decide (b ≤ 1000000000000000))) = true := hc
  have hvc : (vcF smD gs3 (FI.of Try.f92 true) LowestS (.agg [.int .i64, .int .i64]) (LowestI a b) noR [.int .i64 a, .int .i64 b] (LowestR [.int .i64 a, .int .i64 b])) =
    ((true = true) ∧ (((true = true) → ((((decide (b < (0 : Int))) = (true)) → ((((!decide (IntKind.wrap IntKind.i64 ((0 : Int) - if gcdF a b < IntKind.wrap IntKind.i64 (-gcdF a b) then IntKind.wrap IntKind.i64 (-gcdF a b) else gcdF a b) = (0 : Int))) = (true)) → ((((!decide (IntKind.wrap IntKind.i64 ((0 : Int) - if gcdF a b < IntKind.wrap IntKind.i64 (-gcdF a b) then IntKind.wrap IntKind.i64 (-gcdF a b) else gcdF a b) = (0 : Int))) = (true)) → ((((IntKind.i64) = (IntKind.i64)) ∧ ((divF a (gcdF a b)) = (IntKind.wrap IntKind.i64 (Int.tdiv a (IntKind.wrap IntKind.i64 ((0 : Int) - if gcdF a b < IntKind.wrap IntKind.i64 (-gcdF a b) then IntKind.wrap IntKind.i64 (-gcdF a b) else gcdF a b)))))) ∧ ((((IntKind.i64) = (IntKind.i64)) ∧ ((divF b (gcdF a b)) = (IntKind.wrap IntKind.i64 (Int.tdiv b (IntKind.wrap IntKind.i64 ((0 : Int) - if gcdF a b < IntKind.wrap IntKind.i64 (-gcdF a b) then IntKind.wrap IntKind.i64 (-gcdF a b) else gcdF a b)))))) ∧ True))) ∧ (((!decide (IntKind.wrap IntKind.i64 ((0 : Int) - if gcdF a b < IntKind.wrap IntKind.i64 (-gcdF a b) then IntKind.wrap IntKind.i64 (-gcdF a b) else gcdF a b) = (0 : Int))) = (false)) → False))) ∧ (((!decide (IntKind.wrap IntKind.i64 ((0 : Int) - if gcdF a b < IntKind.wrap IntKind.i64 (-gcdF a b) then IntKind.wrap IntKind.i64 (-gcdF a b) else gcdF a b) = (0 : Int))) = (false)) → False))) ∧ (((decide (b < (0 : Int))) = (false)) → ((((!decide ((if gcdF a b < IntKind.wrap IntKind.i64 (-gcdF a b) then IntKind.wrap IntKind.i64 (-gcdF a b) else gcdF a b) = (0 : Int))) = (true)) → ((((!decide ((if gcdF a b < IntKind.wrap IntKind.i64 (-gcdF a b) then IntKind.wrap IntKind.i64 (-gcdF a b) else gcdF a b) = (0 : Int))) = (true)) → ((((IntKind.i64) = (IntKind.i64)) ∧ ((divF a (gcdF a b)) = (IntKind.wrap IntKind.i64 (Int.tdiv a (if gcdF a b < IntKind.wrap IntKind.i64 (-gcdF a b) then IntKind.wrap IntKind.i64 (-gcdF a b) else gcdF a b))))) ∧ ((((IntKind.i64) = (IntKind.i64)) ∧ ((divF b (gcdF a b)) = (IntKind.wrap IntKind.i64 (Int.tdiv b (if gcdF a b < IntKind.wrap IntKind.i64 (-gcdF a b) then IntKind.wrap IntKind.i64 (-gcdF a b) else gcdF a b))))) ∧ True))) ∧ (((!decide ((if gcdF a b < IntKind.wrap IntKind.i64 (-gcdF a b) then IntKind.wrap IntKind.i64 (-gcdF a b) else gcdF a b) = (0 : Int))) = (false)) → False))) ∧ (((!decide ((if gcdF a b < IntKind.wrap IntKind.i64 (-gcdF a b) then IntKind.wrap IntKind.i64 (-gcdF a b) else gcdF a b) = (0 : Int))) = (false)) → False))))) ∧ ((true = false) → False))) := by kernel_rfl
  refine hvc.mpr ?_
  clear hvc
  simp only [Bool.and_eq_true, decide_eq_true_eq] at hc
  obtain ⟨A, rfl⟩ := Int.eq_ofNat_of_zero_le hc.1.1
  obtain ⟨B, rfl⟩ := Int.eq_ofNat_of_zero_le (show 0 ≤ b by omega)
  have g1 := Nat.gcd_pos_of_pos_right A (show 0 < B by omega)
  have g2 := Nat.gcd_le_right A (show 0 < B by omega)
  simp only [gcdF_nat]
  generalize Nat.gcd A B = g at *
  have e : (if (g : Int) < IntKind.i64.wrap (-(g : Int)) then IntKind.i64.wrap (-(g : Int)) else (g : Int)) = g := by
    rw [wrap_id (by omega) (by omega), if_neg (by omega)]
  have e0 : ¬ g = 0 := by omega
  have e1 : ¬ (B : Int) < 0 := by omega
  simp [e, e0, e1, divF]
def smE : T Smf := (T.set smD 92 (some (gFd LowestS (.agg [.int .i64, .int .i64]) LowestC LowestR)))
theorem smE_ok : Tab SmOk smE := (Tab.set smD_ok (by kernel_rfl) (smOk_of smD_ok gs3_ok Lowest_ok rfl))
end
end Go.Ex

