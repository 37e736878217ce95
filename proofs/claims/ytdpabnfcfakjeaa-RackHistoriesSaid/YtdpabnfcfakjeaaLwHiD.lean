/-
  Contracts: BatchOf, WitnessesOf.
-/
import Derived.Test.YtdpabnfcfakjeaaLwHiC

namespace Go.Ex
open Go Go.Proofs Go.RowKit
noncomputable section
set_option maxRecDepth 1000000

def rdA (hp : T Blk) (svs : List Sv) : Option RdIn := match rdB hp svs with
  | some i => some i
  | none => rdW hp svs
theorem rdA_ok : RdOk (mkR smLa gsF) Try.prog η0 135 (FI.of Try.f135 true) rdA := ⟨coatB_ok.1, fun hp svs i hi => by
  unfold rdA at hi
  split at hi
  · rename_i j hj
    cases hi
    exact coatB_ok.2 hp svs _ hj
  · exact coatW_ok.2 hp svs i hi⟩
def gsG : G2 := G2.setE gsF 135 (newR rdA)
theorem gsG_ok : G2Ok gsG := G2Ok.setE gsF_ok (by kernel_rfl) (newR_es smLa_ok gsF_ok rdA_ok)
/-- Does an event coat something in this batch? -/
def evIs (f : Nat → Nat → FD) (q : List UInt8) (i : Nat) : Bool := !decide ((f i 0).i = 2) && bytesEq (f i 2).s q
def idxEvS : List PT := [.one (.list [.int .i64, .str, .str])]
def idxEvB : Clo := (134, [(9, [.str])])
def idxEvC : List FD → List FD → Bool
  | [.list _ nh _], [.str _] => Nat.ble nh 102
  | _, _ => false
def idxEvR : List FD → List FD → List FD
  | [.list _ nh fh], [.str q] => [.int .i64 (idxF (evIs fh q) nh 0)]
  | _, _ => []
def idxEvI (nh : Nat) (fh : Nat → Nat → FD) (q : List UInt8) : Nat → AFam := fun i => match i with | 2 => ⟨Nat, fun _ => [{ι := Nat, G := fun x => x ≤ nh ∧ idxF (evIs fh q) (nh - x) x = idxF (evIs fh q) nh 0, μ := fun x => nh - x, tl := fun x => [(0, .one (.fz (.root 0 0) (FD.list [Sh.int IntKind.i64, Sh.str, Sh.str] nh fh))), (1, .one (.fn 134 [(1, 0)])), (6, .one (.fz (.root 0 0) (FD.list [Sh.int IntKind.i64, Sh.str, Sh.str] nh fh))), (7, .one (.int IntKind.i64 (.tm (Int.ofNat nh)))), (8, .one (.int IntKind.i64 (.tm (Int.ofNat x))))], bl := fun x => [(1, .cells 9 1 [.ostr q])], nx := List.length (Prod.snd idxEvB) + (1 : Nat)}]⟩ | _ => ⟨Nat, fun _ => []⟩
theorem idxEv_ok : HsOk 152 (gFdH idxEvS idxEvB (.one (.int .i64)) idxEvC idxEvR) := by
  refine hsOk_of smLa_ok gsF_ok Try.fok152 (fun fds bds => match fds, bds with | [.list _ nh fh], [.str q] => idxEvI nh fh q | _, _ => alts fun _ => []) rfl rfl ?_
  intro fds bds hf hb hc
  obtain ⟨nh, fh, ds0, rfl, gh, hf1⟩ := hf.list
  obtain rfl := hf1.nil
  obtain ⟨q, es0, rfl, hb1⟩ := hb.str
  obtain rfl := hb1.nil
  have hc : (Nat.ble nh 102) = true := hc
  have hvc : (vcH smLa gsF (FI.of Try.f152 true) idxEvS idxEvB (.one (.int .i64)) (idxEvI nh fh q) [.list [.int .i64, .str, .str] nh fh] [.str q] (idxEvR [.list [.int .i64, .str, .str] nh fh] [.str q])) =
    ((true = true) ∧ (∃ y0 : Nat, ((∃ y1 : Nat, (((y1 ≤ nh ∧ ((idxF (evIs fh q) (nh - y1) y1) = (idxF (evIs fh q) nh (0 : Nat)))) ∧ True) ∧ (((true = true) ∧ ((((Ref.root (0) (0)) = (Ref.root (0) (0))) ∧ (((FD.list [Sh.int IntKind.i64, Sh.str, Sh.str] nh fh) = (FD.list [Sh.int IntKind.i64, Sh.str, Sh.str] nh fh)) ∧ (true = true))) ∧ (((((134 : FuncId)) = (Prod.fst idxEvB)) ∧ (((1, 1) ∈ ([(1, 1)] : List (Nat × Nat))) ∧ (((0) = (0)) ∧ True))) ∧ ((((Ref.root (0) (0)) = (Ref.root (0) (0))) ∧ (((FD.list [Sh.int IntKind.i64, Sh.str, Sh.str] nh fh) = (FD.list [Sh.int IntKind.i64, Sh.str, Sh.str] nh fh)) ∧ (true = true))) ∧ ((((IntKind.i64) = (IntKind.i64)) ∧ ((Int.ofNat nh) = (Int.ofNat nh))) ∧ ((((IntKind.i64) = (IntKind.i64)) ∧ ((Int.ofNat y1) = ((0 : Int)))) ∧ True)))))) ∧ (((((9 : TypeId)) = (Prod.fst ((9 : TypeId), [Sh.str]))) ∧ (((1) = (1)) ∧ (((q) = (q)) ∧ True))) ∧ True)))) ∧ (∀ y1 : Nat, ((y1 ≤ nh ∧ ((idxF (evIs fh q) (nh - y1) y1) = (idxF (evIs fh q) nh (0 : Nat)))) → ((((decide (Int.ofNat y1 < Int.ofNat nh)) = (true)) → ((((decide ((0 : Int) ≤ Int.ofNat y1) && decide (Int.ofNat y1 < (↑nh : Int))) = (true)) → ((((decide (FD.i (fh (Int.toNat (Int.ofNat y1)) (0 : Nat)) = (2 : Int))) = (true)) → (∃ y2 : Nat, (((y2 ≤ nh ∧ ((idxF (evIs fh q) (nh - y2) y2) = (idxF (evIs fh q) nh (0 : Nat)))) ∧ nh - y2 < nh - y1) ∧ (((true = true) ∧ ((((Ref.root (0) (0)) = (Ref.root (0) (0))) ∧ (((FD.list [Sh.int IntKind.i64, Sh.str, Sh.str] nh fh) = (FD.list [Sh.int IntKind.i64, Sh.str, Sh.str] nh fh)) ∧ (true = true))) ∧ (((((134 : FuncId)) = ((134 : FuncId))) ∧ (((1, 1) ∈ ([(1, 1)] : List (Nat × Nat))) ∧ (((0) = (0)) ∧ True))) ∧ ((((Ref.root (0) (0)) = (Ref.root (0) (0))) ∧ (((FD.list [Sh.int IntKind.i64, Sh.str, Sh.str] nh fh) = (FD.list [Sh.int IntKind.i64, Sh.str, Sh.str] nh fh)) ∧ (true = true))) ∧ ((((IntKind.i64) = (IntKind.i64)) ∧ ((Int.ofNat nh) = (Int.ofNat nh))) ∧ ((((IntKind.i64) = (IntKind.i64)) ∧ ((Int.ofNat y2) = (IntKind.wrap IntKind.i64 (Int.ofNat y1 + (1 : Int))))) ∧ True)))))) ∧ (((((9 : TypeId)) = ((9 : TypeId))) ∧ (((1) = (1)) ∧ (((q) = (q)) ∧ True))) ∧ True))))) ∧ (((decide (FD.i (fh (Int.toNat (Int.ofNat y1)) (0 : Nat)) = (2 : Int))) = (false)) → ((((bytesEq (FD.s (fh (Int.toNat (Int.ofNat y1)) ((0 : Nat) + (1 : Nat) + (1 : Nat)))) q) = (true)) → (((IntKind.i64) = (IntKind.i64)) ∧ ((idxF (evIs fh q) nh (0 : Nat)) = (Int.ofNat y1)))) ∧ (((bytesEq (FD.s (fh (Int.toNat (Int.ofNat y1)) ((0 : Nat) + (1 : Nat) + (1 : Nat)))) q) = (false)) → (∃ y2 : Nat, (((y2 ≤ nh ∧ ((idxF (evIs fh q) (nh - y2) y2) = (idxF (evIs fh q) nh (0 : Nat)))) ∧ nh - y2 < nh - y1) ∧ (((true = true) ∧ ((((Ref.root (0) (0)) = (Ref.root (0) (0))) ∧ (((FD.list [Sh.int IntKind.i64, Sh.str, Sh.str] nh fh) = (FD.list [Sh.int IntKind.i64, Sh.str, Sh.str] nh fh)) ∧ (true = true))) ∧ (((((134 : FuncId)) = ((134 : FuncId))) ∧ (((1, 1) ∈ ([(1, 1)] : List (Nat × Nat))) ∧ (((0) = (0)) ∧ True))) ∧ ((((Ref.root (0) (0)) = (Ref.root (0) (0))) ∧ (((FD.list [Sh.int IntKind.i64, Sh.str, Sh.str] nh fh) = (FD.list [Sh.int IntKind.i64, Sh.str, Sh.str] nh fh)) ∧ (true = true))) ∧ ((((IntKind.i64) = (IntKind.i64)) ∧ ((Int.ofNat nh) = (Int.ofNat nh))) ∧ ((((IntKind.i64) = (IntKind.i64)) ∧ ((Int.ofNat y2) = (IntKind.wrap IntKind.i64 (Int.ofNat y1 + (1 : Int))))) ∧ True)))))) ∧ (((((9 : TypeId)) = ((9 : TypeId))) ∧ (((1) = (1)) ∧ (((q) = (q)) ∧ True))) ∧ True))))))))) ∧ (((decide ((0 : Int) ≤ Int.ofNat y1) && decide (Int.ofNat y1 < (↑nh : Int))) = (false)) → False))) ∧ (((decide (Int.ofNat y1 < Int.ofNat nh)) = (false)) → (((IntKind.i64) = (IntKind.i64)) ∧ ((idxF (evIs fh q) nh (0 : Nat)) = ((-1 : Int))))))))))) := by kernel_rfl
  refine hvc.mpr ?_
  clear hvc
  have hn := Nat.le_of_ble_eq_true hc
  simp
  have up : ∀ y, y < nh → idxF (evIs fh q) (nh - y) y = idxF (evIs fh q) nh 0 → evIs fh q y = false → ∃ y2 : Nat, ((y2 ≤ nh ∧ idxF (evIs fh q) (nh - y2) y2 = idxF (evIs fh q) nh 0) ∧ nh - y2 < nh - y) ∧ (y2 : Int) = IntKind.i64.wrap ((y : Int) + 1) := fun y hlt he hb => by
    refine ⟨y + 1, ⟨⟨by omega, ?_⟩, by omega⟩, by rw [wrap_id (by omega) (by omega)]; rfl⟩
    rw [← he, show nh - y = nh - (y + 1) + 1 by omega, idxF_step, hb]
    rfl
  refine ⟨rfl, fun y hy he => ⟨fun hlt => ⟨fun _ => ⟨fun hk => up y hlt he (by simp [evIs, hk]), fun hk => ⟨fun e => ?_, fun e => up y hlt he (by simp [evIs, e])⟩⟩, hlt⟩, fun hge => ?_⟩⟩
  · rw [← he, show nh - y = nh - (y + 1) + 1 by omega, idxF_step, show evIs fh q y = true by simp [evIs, hk, e]]
    rfl
  · rw [← he, show nh - y = 0 by omega]
    rfl
def gsG1 : G2 := (G2.setH gsG 152 (gFdH idxEvS idxEvB (.one (.int .i64)) idxEvC idxEvR))
theorem gsG1_ok : G2Ok gsG1 := (G2Ok.setH gsG_ok (by kernel_rfl) idxEv_ok)
def conEvS : List PT := [.one (.list [.int .i64, .str, .str])]
def conEvB : Clo := (134, [(9, [.str])])
def conEvC : List FD → List FD → Bool
  | [.list _ nh _], [.str _] => Nat.ble nh 102
  | _, _ => false
def conEvR : List FD → List FD → List FD
  | [.list _ nh fh], [.str q] => [.bool (anyN (evIs fh q) nh 0)]
  | _, _ => []
def conEvI (_nh : Nat) (_fh : Nat → Nat → FD) (_q : List UInt8) : Nat → AFam := alts (fun _ => [])
theorem conEv_ok : HsOk 133 (gFdH conEvS conEvB (.one .bool) conEvC conEvR) := by
  refine hsOk_of smLa_ok gsG1_ok Try.fok133 (fun fds bds => match fds, bds with | [.list _ nh fh], [.str q] => conEvI nh fh q | _, _ => alts fun _ => []) rfl rfl ?_
  intro fds bds hf hb hc
  obtain ⟨nh, fh, ds0, rfl, gh, hf1⟩ := hf.list
  obtain rfl := hf1.nil
  obtain ⟨q, es0, rfl, hb1⟩ := hb.str
  obtain rfl := hb1.nil
  have hc : (Nat.ble nh 102) = true := hc
  have hvc : (vcH smLa gsG1 (FI.of Try.f133 true) conEvS conEvB (.one .bool) (conEvI nh fh q) [.list [.int .i64, .str, .str] nh fh] [.str q] (conEvR [.list [.int .i64, .str, .str] nh fh] [.str q])) =
    ((true = true) ∧ ((((idxEvC [FD.list [Sh.int IntKind.i64, Sh.str, Sh.str] nh fh] ([FD.str q] ++ [])) = (true)) → ((anyN (evIs fh q) nh (0 : Nat)) = (!decide (idxF (evIs fh q) nh (0 : Nat) < (0 : Int))))) ∧ (((idxEvC [FD.list [Sh.int IntKind.i64, Sh.str, Sh.str] nh fh] ([FD.str q] ++ [])) = (false)) → False))) := by kernel_rfl
  refine hvc.mpr ?_
  clear hvc
  have := idxF_any (evIs fh q) nh 0
  simp
  exact ⟨fun _ => by rw [this, Bool.not_not], hc⟩
def gsG2 : G2 := (G2.setH gsG1 133 (gFdH conEvS conEvB (.one .bool) conEvC conEvR))
theorem gsG2_ok : G2Ok gsG2 := (G2Ok.setH gsG1_ok (by kernel_rfl) conEv_ok)
/-- What BatchOf says. -/
def baE (n : Nat) (f : Nat → Nat → FD) (q : List UInt8) : Int := if folE n f = 0 then (if anyN (evIs f q) n 0 = true then 0 else 6) else folE n f
def baL (n : Nat) (f : Nat → Nat → FD) (q : List UInt8) : List (List UInt8) := if baE n f q = 0 then coL (ordF f n).length (strR (ordF f n)) (isB (stM f n) q) else []
def BatchOfS : List PT := [.one (.list [.int .i64, .str, .str]), .one (.str)]
def BatchOfC : List FD → Bool
  | [.list _ nh fh, .str _] => evsB nh fh
  | _ => false
def BatchOfR : List FD → List FD
  | [.list _ nh fh, .str q] => [.list [.str] (baL nh fh q).length (strR (baL nh fh q)), .int .i64 (baE nh fh q)]
  | _ => []
def BatchOfI (_nh : Nat) (_fh : Nat → Nat → FD) (_q : List UInt8) : Nat → AFam := alts (fun _ => [])
theorem BatchOf_ok : FnOk (mkR smLa gsG2) Try.prog η0 75 (FI.of Try.f75 false) BatchOfS (.tup [.one (.list [.str]), .one (.int .i64)]) BatchOfC BatchOfR := by
  refine fnOk_of0 smLa_ok gsG2_ok Try.fok75 (fun fds => match fds with | [.list _ nh fh, .str q] => BatchOfI nh fh q | _ => alts fun _ => []) ?_
  intro fds hf hc
  obtain ⟨nh, fh, ds0, rfl, gh, hf1⟩ := hf.list
  obtain ⟨q, ds1, rfl, hf2⟩ := hf1.str
  obtain rfl := hf2.nil
  have hc : (evsB nh fh) = true := hc
  have hvc : (vcF smLa gsG2 (FI.of Try.f75 false) BatchOfS (.tup [.one (.list [.str]), .one (.int .i64)]) (BatchOfI nh fh q) noR [.list [.int .i64, .str, .str] nh fh, .str q] (BatchOfR [.list [.int .i64, .str, .str] nh fh, .str q])) =
    ((true = true) ∧ ((((followC [FD.list [Sh.int IntKind.i64, Sh.str, Sh.str] nh fh]) = (true)) → ((((Nat.beq nh (0 : Nat)) = (true)) → (((true = false) → (((List.length (baL nh fh q)) = (0)) ∧ ((((IntKind.i64) = (IntKind.i64)) ∧ ((baE nh fh q) = ((0 : Int)))) ∧ True))) ∧ ((true = true) → ((((conEvC [FD.list [Sh.int IntKind.i64, Sh.str, Sh.str] nh fh] ([FD.str q] ++ [])) = (true)) → ((((anyN (evIs fh q) nh (0 : Nat)) = (false)) → (((List.length (baL nh fh q)) = (0)) ∧ ((((IntKind.i64) = (IntKind.i64)) ∧ ((baE nh fh q) = ((6 : Int)))) ∧ True))) ∧ (((anyN (evIs fh q) nh (0 : Nat)) = (true)) → False))) ∧ (((conEvC [FD.list [Sh.int IntKind.i64, Sh.str, Sh.str] nh fh] ([FD.str q] ++ [])) = (false)) → False))))) ∧ (((Nat.beq nh (0 : Nat)) = (false)) → ((((decide (folE nh fh = (0 : Int))) = (true)) → (((true = false) → (((List.length (baL nh fh q)) = (0)) ∧ ((((IntKind.i64) = (IntKind.i64)) ∧ ((baE nh fh q) = ((0 : Int)))) ∧ True))) ∧ ((true = true) → ((((conEvC [FD.list [Sh.int IntKind.i64, Sh.str, Sh.str] nh fh] ([FD.str q] ++ [])) = (true)) → ((((anyN (evIs fh q) nh (0 : Nat)) = (false)) → (((List.length (baL nh fh q)) = (0)) ∧ ((((IntKind.i64) = (IntKind.i64)) ∧ ((baE nh fh q) = ((6 : Int)))) ∧ True))) ∧ (((anyN (evIs fh q) nh (0 : Nat)) = (true)) → ((((Nat.beq (List.length (ordF fh nh)) (List.length (ordF fh nh)) && Nat.ble (List.length (ordF fh nh)) (1000 : Nat)) = (true)) → ((((Nat.beq (List.length (coL (List.length (ordF fh nh)) (strR (ordF fh nh)) (isB (stM fh nh) q))) (0 : Nat)) = (true)) → (((List.length (baL nh fh q)) = (0)) ∧ ((((IntKind.i64) = (IntKind.i64)) ∧ ((baE nh fh q) = ((0 : Int)))) ∧ True))) ∧ (((Nat.beq (List.length (coL (List.length (ordF fh nh)) (strR (ordF fh nh)) (isB (stM fh nh) q))) (0 : Nat)) = (false)) → ((((1) ≤ (5)) ∧ ((([Sh.str]) = ([Sh.str])) ∧ (((List.length (coL (List.length (ordF fh nh)) (strR (ordF fh nh)) (isB (stM fh nh) q))) = (List.length (coL (List.length (ordF fh nh)) (strR (ordF fh nh)) (isB (stM fh nh) q)))) ∧ (((List.length (baL nh fh q)) = (List.length (coL (List.length (ordF fh nh)) (strR (ordF fh nh)) (isB (stM fh nh) q)))) ∧ (∀ y0 : Nat, (y0 < List.length (coL (List.length (ordF fh nh)) (strR (ordF fh nh)) (isB (stM fh nh) q)) → (∀ y1 : Nat, (y1 < List.length [Sh.str] → ((strR (baL nh fh q) y0 y1) = (strR (coL (List.length (ordF fh nh)) (strR (ordF fh nh)) (isB (stM fh nh) q)) y0 y1)))))))))) ∧ ((((IntKind.i64) = (IntKind.i64)) ∧ ((baE nh fh q) = ((0 : Int)))) ∧ True))))) ∧ (((Nat.beq (List.length (ordF fh nh)) (List.length (ordF fh nh)) && Nat.ble (List.length (ordF fh nh)) (1000 : Nat)) = (false)) → False))))) ∧ (((conEvC [FD.list [Sh.int IntKind.i64, Sh.str, Sh.str] nh fh] ([FD.str q] ++ [])) = (false)) → False))))) ∧ (((decide (folE nh fh = (0 : Int))) = (false)) → ((((decide (folE nh fh = (0 : Int))) = (false)) → (((List.length (baL nh fh q)) = (0)) ∧ ((((IntKind.i64) = (IntKind.i64)) ∧ ((baE nh fh q) = (folE nh fh))) ∧ True))) ∧ (((decide (folE nh fh = (0 : Int))) = (true)) → ((((conEvC [FD.list [Sh.int IntKind.i64, Sh.str, Sh.str] nh fh] ([FD.str q] ++ [])) = (true)) → ((((anyN (evIs fh q) nh (0 : Nat)) = (false)) → (((List.length (baL nh fh q)) = (0)) ∧ ((((IntKind.i64) = (IntKind.i64)) ∧ ((baE nh fh q) = ((6 : Int)))) ∧ True))) ∧ (((anyN (evIs fh q) nh (0 : Nat)) = (true)) → False))) ∧ (((conEvC [FD.list [Sh.int IntKind.i64, Sh.str, Sh.str] nh fh] ([FD.str q] ++ [])) = (false)) → False))))))))) ∧ (((followC [FD.list [Sh.int IntKind.i64, Sh.str, Sh.str] nh fh]) = (false)) → False))) := by kernel_rfl
  refine hvc.mpr ?_
  clear hvc
  obtain ⟨hn1, hn2, hev⟩ := evsB_spec hc
  have hcon : conEvC [FD.list [Sh.int IntKind.i64, Sh.str, Sh.str] nh fh] [FD.str q] = true := Nat.ble_eq_true_of_le hn1
  have hlen := ordF_length fh nh
  have e6 : folE nh fh = 0 → anyN (evIs fh q) nh 0 = false → baL nh fh q = [] ∧ baE nh fh q = 6 := fun h h' => by
    have e : baE nh fh q = 6 := by rw [baE, if_pos h, if_neg (by rw [h']; decide)]
    exact ⟨by rw [baL, e]; rfl, e⟩
  have e0 : folE nh fh = 0 → anyN (evIs fh q) nh 0 = true → baL nh fh q = coL (ordF fh nh).length (strR (ordF fh nh)) (isB (stM fh nh) q) ∧ baE nh fh q = 0 := fun h h' => by
    have e : baE nh fh q = 0 := by rw [baE, if_pos h, if_pos h']
    exact ⟨by rw [baL, if_pos e], e⟩
  simp
  refine ⟨fun _ => ⟨fun h => ⟨fun _ => ⟨fun h' => e6 (by subst h; rfl) h', by subst h; rfl⟩, hcon⟩, fun _ => ⟨fun h => ⟨fun _ => ⟨e6 h, fun h' => ⟨fun _ => ⟨fun h2 => ?_, fun _ => ?_⟩, by omega⟩⟩, hcon⟩, fun h => ⟨fun _ => ?_, fun h' => absurd h' h⟩⟩⟩, hc⟩
  · obtain ⟨q1, q2⟩ := e0 h h'
    exact ⟨by rw [q1, h2], q2⟩
  · obtain ⟨q1, q2⟩ := e0 h h'
    rw [q1]
    exact ⟨⟨rfl, fun _ _ => rfl⟩, q2⟩
  · have e : baE nh fh q = folE nh fh := by rw [baE, if_neg h]
    exact ⟨by rw [baL, if_neg (by rw [e]; exact h)], e⟩
/-- What WitnessesOf says. -/
def wiE (n : Nat) (f : Nat → Nat → FD) (p : List UInt8) : Int := if folE n f = 0 then (match stF f n p with
  | none => 6
  | some s => if bytesEq s.1 [] = true then 22 else 0) else folE n f
def wiL (n : Nat) (f : Nat → Nat → FD) (p : List UInt8) : List (List UInt8) := if wiE n f p = 0 then coL (ordF f n).length (strR (ordF f n)) (isW (stM f n) p ((stF f n p).getD ([], false, 0)).1) else []
def WitnessesOfS : List PT := [.one (.list [.int .i64, .str, .str]), .one (.str)]
def WitnessesOfC : List FD → Bool
  | [.list _ nh fh, .str _] => evsB nh fh
  | _ => false
def WitnessesOfR : List FD → List FD
  | [.list _ nh fh, .str p] => [.list [.str] (wiL nh fh p).length (strR (wiL nh fh p)), .int .i64 (wiE nh fh p)]
  | _ => []
def WitnessesOfI (_nh : Nat) (_fh : Nat → Nat → FD) (_p : List UInt8) : Nat → AFam := alts (fun _ => [])
theorem WitnessesOf_ok : FnOk (mkR smLa gsG2) Try.prog η0 76 (FI.of Try.f76 false) WitnessesOfS (.tup [.one (.list [.str]), .one (.int .i64)]) WitnessesOfC WitnessesOfR := by
  refine fnOk_of0 smLa_ok gsG2_ok Try.fok76 (fun fds => match fds with | [.list _ nh fh, .str p] => WitnessesOfI nh fh p | _ => alts fun _ => []) ?_
  intro fds hf hc
  obtain ⟨nh, fh, ds0, rfl, gh, hf1⟩ := hf.list
  obtain ⟨p, ds1, rfl, hf2⟩ := hf1.str
  obtain rfl := hf2.nil
  have hc : (evsB nh fh) = true := hc
  have hvc : (vcF smLa gsG2 (FI.of Try.f76 false) WitnessesOfS (.tup [.one (.list [.str]), .one (.int .i64)]) (WitnessesOfI nh fh p) noR [.list [.int .i64, .str, .str] nh fh, .str p] (WitnessesOfR [.list [.int .i64, .str, .str] nh fh, .str p])) =
    ((true = true) ∧ ((((followC [FD.list [Sh.int IntKind.i64, Sh.str, Sh.str] nh fh]) = (true)) → ((((Nat.beq nh (0 : Nat)) = (true)) → (((true = false) → (((List.length (wiL nh fh p)) = (0)) ∧ ((((IntKind.i64) = (IntKind.i64)) ∧ ((wiE nh fh p) = ((0 : Int)))) ∧ True))) ∧ ((true = true) → (((false = false) → (((List.length (wiL nh fh p)) = (0)) ∧ ((((IntKind.i64) = (IntKind.i64)) ∧ ((wiE nh fh p) = ((6 : Int)))) ∧ True))) ∧ ((false = true) → (((true = true) → (((List.length (wiL nh fh p)) = (0)) ∧ ((((IntKind.i64) = (IntKind.i64)) ∧ ((wiE nh fh p) = ((22 : Int)))) ∧ True))) ∧ ((true = false) → False))))))) ∧ (((Nat.beq nh (0 : Nat)) = (false)) → ((((decide (folE nh fh = (0 : Int))) = (true)) → (((true = false) → (((List.length (wiL nh fh p)) = (0)) ∧ ((((IntKind.i64) = (IntKind.i64)) ∧ ((wiE nh fh p) = ((0 : Int)))) ∧ True))) ∧ ((true = true) → ((((isSomeB (stM fh nh p)) = (false)) → (((List.length (wiL nh fh p)) = (0)) ∧ ((((IntKind.i64) = (IntKind.i64)) ∧ ((wiE nh fh p) = ((6 : Int)))) ∧ True))) ∧ (((isSomeB (stM fh nh p)) = (true)) → ((((bytesEq (FD.s (mgt (stM fh nh p) [FD.str [], FD.bool false, FD.int IntKind.i64 (0 : Int)] (0 : Nat))) (Array.toList (ByteArray.data { data := #[] }))) = (true)) → (((List.length (wiL nh fh p)) = (0)) ∧ ((((IntKind.i64) = (IntKind.i64)) ∧ ((wiE nh fh p) = ((22 : Int)))) ∧ True))) ∧ (((bytesEq (FD.s (mgt (stM fh nh p) [FD.str [], FD.bool false, FD.int IntKind.i64 (0 : Int)] (0 : Nat))) (Array.toList (ByteArray.data { data := #[] }))) = (false)) → ((((Nat.beq (List.length (ordF fh nh)) (List.length (ordF fh nh)) && Nat.ble (List.length (ordF fh nh)) (1000 : Nat)) = (true)) → ((((Nat.beq (List.length (coL (List.length (ordF fh nh)) (strR (ordF fh nh)) (isW (stM fh nh) p (FD.s (mgt (stM fh nh p) [FD.str [], FD.bool false, FD.int IntKind.i64 (0 : Int)] (0 : Nat)))))) (0 : Nat)) = (true)) → (((List.length (wiL nh fh p)) = (0)) ∧ ((((IntKind.i64) = (IntKind.i64)) ∧ ((wiE nh fh p) = ((0 : Int)))) ∧ True))) ∧ (((Nat.beq (List.length (coL (List.length (ordF fh nh)) (strR (ordF fh nh)) (isW (stM fh nh) p (FD.s (mgt (stM fh nh p) [FD.str [], FD.bool false, FD.int IntKind.i64 (0 : Int)] (0 : Nat)))))) (0 : Nat)) = (false)) → ((((1) ≤ (17)) ∧ ((([Sh.str]) = ([Sh.str])) ∧ (((List.length (coL (List.length (ordF fh nh)) (strR (ordF fh nh)) (isW (stM fh nh) p (FD.s (mgt (stM fh nh p) [FD.str [], FD.bool false, FD.int IntKind.i64 (0 : Int)] (0 : Nat)))))) = (List.length (coL (List.length (ordF fh nh)) (strR (ordF fh nh)) (isW (stM fh nh) p (FD.s (mgt (stM fh nh p) [FD.str [], FD.bool false, FD.int IntKind.i64 (0 : Int)] (0 : Nat))))))) ∧ (((List.length (wiL nh fh p)) = (List.length (coL (List.length (ordF fh nh)) (strR (ordF fh nh)) (isW (stM fh nh) p (FD.s (mgt (stM fh nh p) [FD.str [], FD.bool false, FD.int IntKind.i64 (0 : Int)] (0 : Nat))))))) ∧ (∀ y0 : Nat, (y0 < List.length (coL (List.length (ordF fh nh)) (strR (ordF fh nh)) (isW (stM fh nh) p (FD.s (mgt (stM fh nh p) [FD.str [], FD.bool false, FD.int IntKind.i64 (0 : Int)] (0 : Nat))))) → (∀ y1 : Nat, (y1 < List.length [Sh.str] → ((strR (wiL nh fh p) y0 y1) = (strR (coL (List.length (ordF fh nh)) (strR (ordF fh nh)) (isW (stM fh nh) p (FD.s (mgt (stM fh nh p) [FD.str [], FD.bool false, FD.int IntKind.i64 (0 : Int)] (0 : Nat))))) y0 y1)))))))))) ∧ ((((IntKind.i64) = (IntKind.i64)) ∧ ((wiE nh fh p) = ((0 : Int)))) ∧ True))))) ∧ (((Nat.beq (List.length (ordF fh nh)) (List.length (ordF fh nh)) && Nat.ble (List.length (ordF fh nh)) (1000 : Nat)) = (false)) → False))))))))) ∧ (((decide (folE nh fh = (0 : Int))) = (false)) → ((((decide (folE nh fh = (0 : Int))) = (false)) → (((List.length (wiL nh fh p)) = (0)) ∧ ((((IntKind.i64) = (IntKind.i64)) ∧ ((wiE nh fh p) = (folE nh fh))) ∧ True))) ∧ (((decide (folE nh fh = (0 : Int))) = (true)) → False))))))) ∧ (((followC [FD.list [Sh.int IntKind.i64, Sh.str, Sh.str] nh fh]) = (false)) → False))) := by kernel_rfl
  refine hvc.mpr ?_
  clear hvc
  obtain ⟨hn1, hn2, hev⟩ := evsB_spec hc
  have hlen := ordF_length fh nh
  simp
  have hm : (mgt (stM fh nh p) [FD.str [], FD.bool false, FD.int IntKind.i64 0] 0).s = ((stF fh nh p).getD ([], false, 0)).1 := by rw [mgt_st]; rfl
  rw [hm, isSome_st]
  have e6 : folE nh fh = 0 → (stF fh nh p).isSome = false → wiL nh fh p = [] ∧ wiE nh fh p = 6 := fun h h' => by
    have e : wiE nh fh p = 6 := by
      rw [wiE, if_pos h]
      cases he : stF fh nh p with
      | none => rfl
      | some s => rw [he] at h'; cases h'
    exact ⟨by rw [wiL, e]; rfl, e⟩
  have eS : folE nh fh = 0 → (stF fh nh p).isSome = true → wiE nh fh p = if bytesEq ((stF fh nh p).getD ([], false, 0)).1 [] = true then 22 else 0 := fun h h' => by
    rw [wiE, if_pos h]
    cases he : stF fh nh p with
    | none => rw [he] at h'; cases h'
    | some s => rfl
  refine ⟨fun _ => ⟨fun h => by subst h; exact ⟨rfl, rfl⟩, fun _ => ⟨fun h => ⟨e6 h, fun h1 => ⟨fun h2 => ?_, fun h2 => ⟨fun _ => ⟨fun h3 => ?_, fun _ => ?_⟩, by omega⟩⟩⟩, fun h => ⟨fun _ => ?_, h⟩⟩⟩, hc⟩
  · have e := (eS h h1).trans (if_pos h2)
    exact ⟨by rw [wiL, e]; rfl, e⟩
  · have e := (eS h h1).trans (if_neg (by rw [h2]; decide))
    exact ⟨by rw [wiL, if_pos e, h3], e⟩
  · have e := (eS h h1).trans (if_neg (by rw [h2]; decide))
    rw [wiL, if_pos e]
    exact ⟨⟨rfl, fun _ _ => rfl⟩, e⟩
  · have e : wiE nh fh p = folE nh fh := by rw [wiE, if_neg h]
    exact ⟨by rw [wiL, if_neg (by rw [e]; exact h)], e⟩
end
end Go.Ex

