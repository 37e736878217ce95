/-
 Contracts: assignments and covers.
-/
import Derived.Test.YtdpabnfcfakjeaaLwLdD
/-
 No assignment has more parts than a cover has members.
-/

namespace Go.Ex
open Go Go.Proofs Go.RowKit
noncomputable section
set_option maxRecDepth 1000000

def TT : T Smf := (T.set (T.set JG 25 (some (gFd BE (.tup [.one (.int .i64), .one (.int .i64)]) oS BF))) 68 (some (gFd rL (.tup [.one (.int .i64), .one (.int .i64)]) j9 rM)))
theorem F4 : Tab fK TT := (Tab.set (Tab.set m5 (by kernel_rfl) (aW m5 fU L9 rfl)) (by kernel_rfl) (aW m5 fU F3 rfl))
def BH : List PT := [.agg [.list [.str, .list [.int .i64]], .int .i64]]
def oT : List FD → Bool
 | [.list _ nps fps, .int _ _] => lB nps fps
 | _ => false
def BI : List FD → List FD
 | [.list _ nps fps, .int _ pc] => [.int .i64 (bC pc nps fps)]
 | _ => []
def JK (_nps : Nat) (_fps : Nat → Nat → FD) (_pc : Int) : Nat → b9 := aZ (fun _ => [])
theorem MA : dA (mkR TT uR) Try.prog η0 93 (FI.of Try.f93 true) BH (.one (.int .i64)) oT BI := by
 refine aM F4 fU Try.fok93 (fun fds => match fds with | [.list _ nps fps, .int _ pc] => JK nps fps pc | _ => aZ fun _ => []) ?_
 intro fds hf hc
 obtain ⟨nps, fps, ds0, rfl, gps, hf1⟩ := hf.list
 obtain ⟨pc, ds1, rfl, hf2⟩ := hf1.int
 obtain rfl := hf2.nil
 have hc : (lB nps fps) = true := hc
 have hvc : (vcF TT uR (FI.of Try.f93 true) BH (.one (.int .i64)) (JK nps fps pc) noR [.list [.str, .list [.int .i64]] nps fps, .int .i64 pc] (BI [.list [.str, .list [.int .i64]] nps fps, .int .i64 pc])) =
  ((true = true) ∧ ((((j9 ([FD.list [Sh.str, Sh.list [Sh.int IntKind.i64]] nps fps, FD.int IntKind.i64 pc] ++ [])) = (true)) → (((IntKind.i64) = (IntKind.i64)) ∧ ((bC pc nps fps) = (bC pc nps fps)))) ∧ (((j9 ([FD.list [Sh.str, Sh.list [Sh.int IntKind.i64]] nps fps, FD.int IntKind.i64 pc] ++ [])) = (false)) → False))) := by kernel_rfl
 refine hvc.mpr ?_
 clear hvc
 have h1 : j9 [.list [.str, .list [.int .i64]] nps fps, .int .i64 pc] = true := hc
 simp [h1]
def JL : T Smf := (T.set TT 93 (some (gFd BH (.one (.int .i64)) oT BI)))
theorem m6 : Tab fK JL := (Tab.set F4 (by kernel_rfl) (aW F4 fU MA rfl))
/-- The error of a part's place; how many parts have one. -/
def eP (pc : Int) (f g : Nat → Nat → FD) (i : Nat) : Int :=
 if (g i 0).i = -1 then 0 else if 0 ≤ (g i 0).i ∧ (g i 0).i ≤ IntKind.i64.wrap (pc - 1) then (if aR (f i 1).ln (f i 1).fn (g i 0).i = true then (if aR i g (g i 0).i = true then 26 else 0) else 13) else 6
def cQ (g : Nat → Nat → FD) : Nat → Int
 | 0 => 0
 | n + 1 => if (g n 0).i = -1 then cQ g n else cQ g n + 1
def plE (n : Nat) (pc : Int) (f : Nat → Nat → FD) (m : Nat) (g : Nat → Nat → FD) : Int := if m = n then aK (eP pc f g) m else 12
def plV (n : Nat) (pc : Int) (f : Nat → Nat → FD) (m : Nat) (g : Nat → Nat → FD) : Int := if plE n pc f m g = 0 then cQ g m else 0
theorem R7 {pc : Int} {n : Nat} {f : Nat → Nat → FD} (h : bC pc n f = 0) : 0 ≤ pc ∧ pc ≤ 24 := by
 unfold bC at h
 split at h
 ·assumption
 ·omega
theorem JM (g : Nat → Nat → FD) : ∀ n : Nat, 0 ≤ cQ g n ∧ cQ g n ≤ n
 | 0 => by simp [cQ]
 | n + 1 => by
  have := JM g n
  simp only [cQ]
  split <;> omega
/-- What a round over the places comes to. -/
theorem R8 {pc : Int} {n : Nat} {f g : Nat → Nat → FD} {y : Nat} (hn : n ≤ 26) (hy : y < n) (he : aK (eP pc f g) y = 0) :
  (∀ v : Int, eP pc f g y = v → v ≠ 0 → plV n pc f n g = 0 ∧ plE n pc f n g = v) ∧
  (eP pc f g y = 0 → (g y 0).i = -1 → ∃ y2, ((n = n ∧ y2 ≤ n ∧ aK (eP pc f g) y2 = 0) ∧ n - y2 < n - y) ∧ cQ g y2 = cQ g y ∧ (y2 : Int) = IntKind.i64.wrap ((y : Int) + 1)) ∧
  (eP pc f g y = 0 → (g y 0).i ≠ -1 → ∃ y2, ((n = n ∧ y2 ≤ n ∧ aK (eP pc f g) y2 = 0) ∧ n - y2 < n - y) ∧ cQ g y2 = IntKind.i64.wrap (cQ g y + 1) ∧ (y2 : Int) = IntKind.i64.wrap ((y : Int) + 1)) := by
 have b := JM g y
 refine ⟨fun v hv h0 => ?_, fun h h1 => ⟨y + 1, ⟨⟨rfl, by omega, lA he h⟩, by omega⟩, by rw [cQ, if_pos h1], by rw [aQ (by omega) (by omega)]; rfl⟩, fun h h1 => ⟨y + 1, ⟨⟨rfl, by omega, lA he h⟩, by omega⟩, by rw [cQ, if_neg h1, aQ (by omega) (by omega)], by rw [aQ (by omega) (by omega)]; rfl⟩⟩
 obtain ⟨q1, _⟩ := j8 he (by rw [hv]; exact h0) hy
 have e : plE n pc f n g = v := by rw [plE, if_pos rfl, q1, hv]
 exact ⟨by rw [plV, e, if_neg h0], e⟩
theorem W4 {pc : Int} {n : Nat} {f g : Nat → Nat → FD} (he : aK (eP pc f g) n = 0) : plV n pc f n g = cQ g n ∧ plE n pc f n g = 0 := by
 have e : plE n pc f n g = 0 := by rw [plE, if_pos rfl, he]
 exact ⟨by rw [plV, e, if_pos rfl], e⟩
theorem R9 {pc : Int} {n m : Nat} {f g : Nat → Nat → FD} (h : m ≠ n) : plV n pc f m g = 0 ∧ plE n pc f m g = 12 := by
 have e : plE n pc f m g = 12 := if_neg h
 exact ⟨by rw [plV, e]; rfl, e⟩
def rN : List PT := [.agg [.list [.str, .list [.int .i64]], .int .i64], .one (.list [.int .i64])]
def g7 : List FD → Bool
 | [.list _ nps _, .int _ pc, .list _ _ _] => Nat.ble nps 26 && decide (0 ≤ pc ∧ pc ≤ 24)
 | _ => false
def rO : List FD → List FD
 | [.list _ nps fps, .int _ pc, .list _ nq fq] => [.int .i64 (plV nps pc fps nq fq), .int .i64 (plE nps pc fps nq fq)]
 | _ => []
def BJ (nps : Nat) (fps : Nat → Nat → FD) (pc : Int) (nq : Nat) (fq : Nat → Nat → FD) : Nat → b9 := fun i => match i with | 5 => ⟨Nat, fun _ => [{ι := Nat, G := fun x => nq = nps ∧ (x ≤ nq ∧ aK (eP pc fps fq) x = 0), μ := fun x => nq - x, tl := fun x => [(0, .agg [.fz (.root 0 0) (FD.list [Sh.str, Sh.list [Sh.int IntKind.i64]] nps fps), .int IntKind.i64 (.tm pc)]), (1, .one (.fz (.root 0 2) (FD.list [Sh.int IntKind.i64] nq fq))), (2, .one (.ptr (some (1, 0)))), (4, .one (.int IntKind.i64 (.lit (0 : Int)))), (5, .one (.int IntKind.i64 (.lit (0 : Int)))), (6, .one (.int IntKind.i64 (.tm (cQ fq x)))), (7, .one (.int IntKind.i64 (.tm (Int.ofNat x))))], bl := fun x => [(1, .cells 35 2 [.fz (.root 0 0) (FD.list [Sh.str, Sh.list [Sh.int IntKind.i64]] nps fps), .int IntKind.i64 (.tm pc)])], nx := (1 : Nat) + (1 : Nat)}]⟩ | _ => ⟨Nat, fun _ => []⟩
theorem F5 : dA (mkR JL uR) Try.prog η0 26 (FI.of Try.f26 true) rN (.tup [.one (.int .i64), .one (.int .i64)]) g7 rO := by
 refine aM m6 fU Try.fok26 (fun fds => match fds with | [.list _ nps fps, .int _ pc, .list _ nq fq] => BJ nps fps pc nq fq | _ => aZ fun _ => []) ?_
 intro fds hf hc
 obtain ⟨nps, fps, ds0, rfl, gps, hf1⟩ := hf.list
 obtain ⟨pc, ds1, rfl, hf2⟩ := hf1.int
 obtain ⟨nq, fq, ds2, rfl, gq, hf3⟩ := hf2.list
 obtain rfl := hf3.nil
 have hc : (Nat.ble nps 26 && decide (0 ≤ pc ∧ pc ≤ 24)) = true := hc
 have hvc : (vcF JL uR (FI.of Try.f26 true) rN (.tup [.one (.int .i64), .one (.int .i64)]) (BJ nps fps pc nq fq) noR [.list [.str, .list [.int .i64]] nps fps, .int .i64 pc, .list [.int .i64] nq fq] (rO [.list [.str, .list [.int .i64]] nps fps, .int .i64 pc, .list [.int .i64] nq fq])) =
  ((true = true) ∧ ((((decide (Int.ofNat nq = Int.ofNat nps)) = (false)) → ((((IntKind.i64) = (IntKind.i64)) ∧ ((plV nps pc fps nq fq) = ((0 : Int)))) ∧ ((((IntKind.i64) = (IntKind.i64)) ∧ ((plE nps pc fps nq fq) = ((12 : Int)))) ∧ True))) ∧ (((decide (Int.ofNat nq = Int.ofNat nps)) = (true)) → (∃ y0 : Nat, ((∃ y1 : Nat, (((((nq) = (nps)) ∧ (y1 ≤ nq ∧ ((aK (eP pc fps fq) y1) = ((0 : Int))))) ∧ True) ∧ (((true = true) ∧ (((((Ref.root (0) (0)) = (Ref.root (0) (0))) ∧ (((FD.list [Sh.str, Sh.list [Sh.int IntKind.i64]] nps fps) = (FD.list [Sh.str, Sh.list [Sh.int IntKind.i64]] nps fps)) ∧ (true = true))) ∧ ((((IntKind.i64) = (IntKind.i64)) ∧ ((pc) = (pc))) ∧ True)) ∧ ((((Ref.root (0) (2)) = (Ref.root (0) (2))) ∧ (((FD.list [Sh.int IntKind.i64] nq fq) = (FD.list [Sh.int IntKind.i64] nq fq)) ∧ (true = true))) ∧ ((((1, 1) ∈ ([(1, 1)] : List (Nat × Nat))) ∧ ((0) = (0))) ∧ ((((IntKind.i64) = (IntKind.i64)) ∧ (((0 : Int)) = ((0 : Int)))) ∧ ((((IntKind.i64) = (IntKind.i64)) ∧ (((0 : Int)) = ((0 : Int)))) ∧ ((((IntKind.i64) = (IntKind.i64)) ∧ ((cQ fq y1) = ((0 : Int)))) ∧ ((((IntKind.i64) = (IntKind.i64)) ∧ ((Int.ofNat y1) = ((0 : Int)))) ∧ True)))))))) ∧ (((((35 : TypeId)) = ((35 : Nat))) ∧ (((2) = (2)) ∧ ((((Ref.root (0) (0)) = (Ref.root (0) (0))) ∧ (((FD.list [Sh.str, Sh.list [Sh.int IntKind.i64]] nps fps) = (FD.list [Sh.str, Sh.list [Sh.int IntKind.i64]] nps fps)) ∧ (true = true))) ∧ ((((IntKind.i64) = (IntKind.i64)) ∧ ((pc) = (pc))) ∧ True)))) ∧ True)))) ∧ (∀ y1 : Nat, ((((nq) = (nps)) ∧ (y1 ≤ nq ∧ ((aK (eP pc fps fq) y1) = ((0 : Int))))) → ((((decide (Int.ofNat y1 < Int.ofNat nq)) = (true)) → ((((decide ((0 : Int) ≤ Int.ofNat y1) && decide (Int.ofNat y1 < (↑nq : Int))) = (true)) → (((true = true) → ((((decide ((-1 : Int) ≤ FD.i (fq (Int.toNat (Int.ofNat y1)) (0 : Nat))) && decide (FD.i (fq (Int.toNat (Int.ofNat y1)) (0 : Nat)) ≤ IntKind.wrap IntKind.i64 (pc - (1 : Int)))) = (false)) → ((((IntKind.i64) = (IntKind.i64)) ∧ ((plV nps pc fps nq fq) = ((0 : Int)))) ∧ ((((IntKind.i64) = (IntKind.i64)) ∧ ((plE nps pc fps nq fq) = ((6 : Int)))) ∧ True))) ∧ (((decide ((-1 : Int) ≤ FD.i (fq (Int.toNat (Int.ofNat y1)) (0 : Nat))) && decide (FD.i (fq (Int.toNat (Int.ofNat y1)) (0 : Nat)) ≤ IntKind.wrap IntKind.i64 (pc - (1 : Int)))) = (true)) → ((((decide ((0 : Int) ≤ Int.ofNat y1) && decide (Int.ofNat y1 < (↑nq : Int))) = (true)) → ((((decide (FD.i (fq (Int.toNat (Int.ofNat y1)) (0 : Nat)) < (0 : Int))) = (true)) → (∃ y2 : Nat, (((((nq) = (nps)) ∧ (y2 ≤ nq ∧ ((aK (eP pc fps fq) y2) = ((0 : Int))))) ∧ nq - y2 < nq - y1) ∧ (((true = true) ∧ (((((Ref.root (0) (0)) = (Ref.root (0) (0))) ∧ (((FD.list [Sh.str, Sh.list [Sh.int IntKind.i64]] nps fps) = (FD.list [Sh.str, Sh.list [Sh.int IntKind.i64]] nps fps)) ∧ (true = true))) ∧ ((((IntKind.i64) = (IntKind.i64)) ∧ ((pc) = (pc))) ∧ True)) ∧ ((((Ref.root (0) (2)) = (Ref.root (0) (2))) ∧ (((FD.list [Sh.int IntKind.i64] nq fq) = (FD.list [Sh.int IntKind.i64] nq fq)) ∧ (true = true))) ∧ ((((1, 1) ∈ ([(1, 1)] : List (Nat × Nat))) ∧ ((0) = (0))) ∧ ((((IntKind.i64) = (IntKind.i64)) ∧ (((0 : Int)) = ((0 : Int)))) ∧ ((((IntKind.i64) = (IntKind.i64)) ∧ (((0 : Int)) = ((0 : Int)))) ∧ ((((IntKind.i64) = (IntKind.i64)) ∧ ((cQ fq y2) = (cQ fq y1))) ∧ ((((IntKind.i64) = (IntKind.i64)) ∧ ((Int.ofNat y2) = (IntKind.wrap IntKind.i64 (Int.ofNat y1 + (1 : Int))))) ∧ True)))))))) ∧ (((((35 : TypeId)) = ((35 : TypeId))) ∧ (((2) = (2)) ∧ ((((Ref.root (0) (0)) = (Ref.root (0) (0))) ∧ (((FD.list [Sh.str, Sh.list [Sh.int IntKind.i64]] nps fps) = (FD.list [Sh.str, Sh.list [Sh.int IntKind.i64]] nps fps)) ∧ (true = true))) ∧ ((((IntKind.i64) = (IntKind.i64)) ∧ ((pc) = (pc))) ∧ True)))) ∧ True))))) ∧ (((decide (FD.i (fq (Int.toNat (Int.ofNat y1)) (0 : Nat)) < (0 : Int))) = (false)) → ((((decide ((0 : Int) ≤ Int.ofNat y1) && decide (Int.ofNat y1 < (↑nps : Int))) = (true)) → ((((decide ((0 : Int) ≤ Int.ofNat y1) && decide (Int.ofNat y1 < (↑nq : Int))) = (true)) → (((true = true) → ((((aR (FD.ln (fps (Int.toNat (Int.ofNat y1)) ((0 : Nat) + Field.offset { name := "Fits", type := (22 : Nat), offset := (1 : Nat), embedded := false, tag := "", pkgPath := "", byteOffset := (16 : Nat) }))) (FD.fn (fps (Int.toNat (Int.ofNat y1)) ((0 : Nat) + Field.offset { name := "Fits", type := (22 : Nat), offset := (1 : Nat), embedded := false, tag := "", pkgPath := "", byteOffset := (16 : Nat) }))) (FD.i (fq (Int.toNat (Int.ofNat y1)) (0 : Nat)))) = (false)) → ((((IntKind.i64) = (IntKind.i64)) ∧ ((plV nps pc fps nq fq) = ((0 : Int)))) ∧ ((((IntKind.i64) = (IntKind.i64)) ∧ ((plE nps pc fps nq fq) = ((13 : Int)))) ∧ True))) ∧ (((aR (FD.ln (fps (Int.toNat (Int.ofNat y1)) ((0 : Nat) + Field.offset { name := "Fits", type := (22 : Nat), offset := (1 : Nat), embedded := false, tag := "", pkgPath := "", byteOffset := (16 : Nat) }))) (FD.fn (fps (Int.toNat (Int.ofNat y1)) ((0 : Nat) + Field.offset { name := "Fits", type := (22 : Nat), offset := (1 : Nat), embedded := false, tag := "", pkgPath := "", byteOffset := (16 : Nat) }))) (FD.i (fq (Int.toNat (Int.ofNat y1)) (0 : Nat)))) = (true)) → ((((decide ((0 : Int) ≤ (0 : Int)) && (decide ((0 : Int) ≤ Int.ofNat y1) && decide (Int.ofNat y1 ≤ (↑nq : Int)))) = (true)) → ((((decide ((0 : Int) ≤ Int.ofNat y1) && decide (Int.ofNat y1 < (↑nq : Int))) = (true)) → (((true = true) → ((((aR (Int.toNat (Int.ofNat y1 - (0 : Int))) (fun (i j : Nat) => fq (Int.toNat (0 : Int) + i) j) (FD.i (fq (Int.toNat (Int.ofNat y1)) (0 : Nat)))) = (true)) → ((((IntKind.i64) = (IntKind.i64)) ∧ ((plV nps pc fps nq fq) = ((0 : Int)))) ∧ ((((IntKind.i64) = (IntKind.i64)) ∧ ((plE nps pc fps nq fq) = ((26 : Int)))) ∧ True))) ∧ (((aR (Int.toNat (Int.ofNat y1 - (0 : Int))) (fun (i j : Nat) => fq (Int.toNat (0 : Int) + i) j) (FD.i (fq (Int.toNat (Int.ofNat y1)) (0 : Nat)))) = (false)) → (∃ y2 : Nat, (((((nq) = (nps)) ∧ (y2 ≤ nq ∧ ((aK (eP pc fps fq) y2) = ((0 : Int))))) ∧ nq - y2 < nq - y1) ∧ (((true = true) ∧ (((((Ref.root (0) (0)) = (Ref.root (0) (0))) ∧ (((FD.list [Sh.str, Sh.list [Sh.int IntKind.i64]] nps fps) = (FD.list [Sh.str, Sh.list [Sh.int IntKind.i64]] nps fps)) ∧ (true = true))) ∧ ((((IntKind.i64) = (IntKind.i64)) ∧ ((pc) = (pc))) ∧ True)) ∧ ((((Ref.root (0) (2)) = (Ref.root (0) (2))) ∧ (((FD.list [Sh.int IntKind.i64] nq fq) = (FD.list [Sh.int IntKind.i64] nq fq)) ∧ (true = true))) ∧ ((((1, 1) ∈ ([(1, 1)] : List (Nat × Nat))) ∧ ((0) = (0))) ∧ ((((IntKind.i64) = (IntKind.i64)) ∧ (((0 : Int)) = ((0 : Int)))) ∧ ((((IntKind.i64) = (IntKind.i64)) ∧ (((0 : Int)) = ((0 : Int)))) ∧ ((((IntKind.i64) = (IntKind.i64)) ∧ ((cQ fq y2) = (IntKind.wrap IntKind.i64 (cQ fq y1 + (1 : Int))))) ∧ ((((IntKind.i64) = (IntKind.i64)) ∧ ((Int.ofNat y2) = (IntKind.wrap IntKind.i64 (Int.ofNat y1 + (1 : Int))))) ∧ True)))))))) ∧ (((((35 : TypeId)) = ((35 : TypeId))) ∧ (((2) = (2)) ∧ ((((Ref.root (0) (0)) = (Ref.root (0) (0))) ∧ (((FD.list [Sh.str, Sh.list [Sh.int IntKind.i64]] nps fps) = (FD.list [Sh.str, Sh.list [Sh.int IntKind.i64]] nps fps)) ∧ (true = true))) ∧ ((((IntKind.i64) = (IntKind.i64)) ∧ ((pc) = (pc))) ∧ True)))) ∧ True))))))) ∧ ((true = false) → False))) ∧ (((decide ((0 : Int) ≤ Int.ofNat y1) && decide (Int.ofNat y1 < (↑nq : Int))) = (false)) → False))) ∧ (((decide ((0 : Int) ≤ (0 : Int)) && (decide ((0 : Int) ≤ Int.ofNat y1) && decide (Int.ofNat y1 ≤ (↑nq : Int)))) = (false)) → False))))) ∧ ((true = false) → False))) ∧ (((decide ((0 : Int) ≤ Int.ofNat y1) && decide (Int.ofNat y1 < (↑nq : Int))) = (false)) → False))) ∧ (((decide ((0 : Int) ≤ Int.ofNat y1) && decide (Int.ofNat y1 < (↑nps : Int))) = (false)) → False))))) ∧ (((decide ((0 : Int) ≤ Int.ofNat y1) && decide (Int.ofNat y1 < (↑nq : Int))) = (false)) → False))))) ∧ ((true = false) → False))) ∧ (((decide ((0 : Int) ≤ Int.ofNat y1) && decide (Int.ofNat y1 < (↑nq : Int))) = (false)) → False))) ∧ (((decide (Int.ofNat y1 < Int.ofNat nq)) = (false)) → ((((IntKind.i64) = (IntKind.i64)) ∧ ((plV nps pc fps nq fq) = (cQ fq y1))) ∧ ((((IntKind.i64) = (IntKind.i64)) ∧ ((plE nps pc fps nq fq) = ((0 : Int)))) ∧ True))))))))))) := by kernel_rfl
 refine hvc.mpr ?_
 clear hvc
 simp only [Bool.and_eq_true, decide_eq_true_eq] at hc
 obtain ⟨hn, hp0, hp1⟩ := hc
 have hn := Nat.le_of_ble_eq_true hn
 have hw : IntKind.i64.wrap (pc - 1) = pc - 1 := aQ (by omega) (by omega)
 simp [hw]
 refine ⟨fun h => R9 (by omega), fun h => ?_⟩
 obtain rfl : nq = nps := by omega
 refine ⟨⟨⟨rfl, rfl⟩, rfl⟩, fun y _ hy he => ⟨fun hlt => ⟨fun _ => ?_, hlt⟩, fun hge => ?_⟩⟩
 ·obtain ⟨r1, r2, r3⟩ := R8 hn hlt he
  refine ⟨fun h => r1 6 ?_ (by omega), fun h1 h2 => ⟨fun _ => ⟨fun h3 => r2 ?_ (by omega), fun h3 => ⟨fun _ => ⟨fun _ => ⟨fun h4 => r1 13 ?_ (by omega), fun h4 => ⟨fun _ => ⟨fun _ => ⟨fun h5 => r1 26 ?_ (by omega), fun h5 => r3 ?_ (by omega)⟩, hlt⟩, by omega⟩⟩, hlt⟩, hlt⟩⟩, hlt⟩⟩
  ·rw [eP, if_neg (by intro hh; have := h (by omega); omega), if_neg (by rw [hw]; intro hh; have := h (by omega); omega)]
  ·rw [eP, if_pos (by omega)]
  ·rw [eP, if_neg (by omega), if_pos (by rw [hw]; omega), if_neg (by rw [h4]; simp)]
  ·rw [eP, if_neg (by omega), if_pos (by rw [hw]; omega), if_pos h4, if_pos h5]
  ·rw [eP, if_neg (by omega), if_pos (by rw [hw]; omega), if_pos h4, if_neg (by intro hh; have := h5.symm.trans hh; simp at this)]
 ·obtain rfl : y = nq := by omega
  exact W4 he
/-- The error of a part that a cover leaves out. -/
def BZ (f : Nat → Nat → FD) (ncp : Nat) (fcp : Nat → Nat → FD) (ncl : Nat) (fcl : Nat → Nat → FD) (i k : Nat) : Bool := aR ncp fcp i || aR ncl fcl ((f i 1).fn k 0).i
def gF (f : Nat → Nat → FD) (ncp : Nat) (fcp : Nat → Nat → FD) (ncl : Nat) (fcl : Nat → Nat → FD) (i : Nat) : Int := if aJ (BZ f ncp fcp ncl fcl i) (f i 1).ln = true then 0 else 20
def coE (pc : Int) (n : Nat) (f : Nat → Nat → FD) (ncp : Nat) (fcp : Nat → Nat → FD) (ncl : Nat) (fcl : Nat → Nat → FD) : Int := cC (aK (cM fcp n) ncp) (aK (cM fcl pc) ncl) (aK (gF f ncp fcp ncl fcl) n)
def coV (pc : Int) (n : Nat) (f : Nat → Nat → FD) (ncp : Nat) (fcp : Nat → Nat → FD) (ncl : Nat) (fcl : Nat → Nat → FD) : Int := if coE pc n f ncp fcp ncl fcl = 0 then (ncp : Int) + ncl else 0
def uS : List PT := [.agg [.list [.str, .list [.int .i64]], .int .i64], .agg [.list [.int .i64], .list [.int .i64]]]
def jQ : List FD → Bool
 | [.list _ nps _, .int _ _, .list _ ncp _, .list _ ncl _] => Nat.ble nps 26 && (Nat.ble ncp 30 && Nat.ble ncl 30)
 | _ => false
def uT : List FD → List FD
 | [.list _ nps fps, .int _ pc, .list _ ncp fcp, .list _ ncl fcl] => [.int .i64 (coV pc nps fps ncp fcp ncl fcl), .int .i64 (coE pc nps fps ncp fcp ncl fcl)]
 | _ => []
def DJ (nps : Nat) (fps : Nat → Nat → FD) (pc : Int) (ncp : Nat) (fcp : Nat → Nat → FD) (ncl : Nat) (fcl : Nat → Nat → FD) : Nat → b9 := fun i => match i with | 8 => ⟨Nat, fun _ => [{ι := Nat, G := fun x => x ≤ nps ∧ aK (gF fps ncp fcp ncl fcl) x = 0, μ := fun x => nps - x, tl := fun x => [(0, .agg [.fz (.root 0 0) (FD.list [Sh.str, Sh.list [Sh.int IntKind.i64]] nps fps), .int IntKind.i64 (.tm pc)]), (1, .agg [.fz (.root 0 2) (FD.list [Sh.int IntKind.i64] ncp fcp), .fz (.root 0 3) (FD.list [Sh.int IntKind.i64] ncl fcl)]), (2, .one (.ptr (some (1, 0)))), (3, .one (.ptr (some (2, 0)))), (4, .one (.int IntKind.i64 (.lit (0 : Int)))), (5, .one (.int IntKind.i64 (.lit (0 : Int)))), (8, .one (.int IntKind.i64 (.tm (Int.ofNat x))))], bl := fun x => [(1, .cells 35 2 [.fz (.root 0 0) (FD.list [Sh.str, Sh.list [Sh.int IntKind.i64]] nps fps), .int IntKind.i64 (.tm pc)]), (2, .cells 38 2 [.fz (.root 0 2) (FD.list [Sh.int IntKind.i64] ncp fcp), .fz (.root 0 3) (FD.list [Sh.int IntKind.i64] ncl fcl)])], nx := (1 : Nat) + (1 : Nat) + (1 : Nat)}]⟩ | 11 => ⟨Nat, fun z => [{ι := Nat, G := fun x => (z < nps ∧ aK (gF fps ncp fcp ncl fcl) z = 0) ∧ (x ≤ (fps z 1).ln ∧ aJ (BZ fps ncp fcp ncl fcl z) x = true), μ := fun x => (fps z 1).ln - x, tl := fun x => [(0, .agg [.fz (.root 0 0) (FD.list [Sh.str, Sh.list [Sh.int IntKind.i64]] nps fps), .int IntKind.i64 (.tm pc)]), (1, .agg [.fz (.root 0 2) (FD.list [Sh.int IntKind.i64] ncp fcp), .fz (.root 0 3) (FD.list [Sh.int IntKind.i64] ncl fcl)]), (2, .one (.ptr (some (1, 0)))), (3, .one (.ptr (some (2, 0)))), (4, .one (.int IntKind.i64 (.lit (0 : Int)))), (5, .one (.int IntKind.i64 (.lit (0 : Int)))), (8, .one (.int IntKind.i64 (.tm (Int.ofNat z)))), (9, .one (.int IntKind.i64 (.tm (Int.ofNat x))))], bl := fun x => [(1, .cells 35 2 [.fz (.root 0 0) (FD.list [Sh.str, Sh.list [Sh.int IntKind.i64]] nps fps), .int IntKind.i64 (.tm pc)]), (2, .cells 38 2 [.fz (.root 0 2) (FD.list [Sh.int IntKind.i64] ncp fcp), .fz (.root 0 3) (FD.list [Sh.int IntKind.i64] ncl fcl)])], nx := (1 : Nat) + (1 : Nat) + (1 : Nat)}]⟩ | _ => ⟨Nat, fun _ => []⟩
abbrev eK (ncp : Nat) (fcp : Nat → Nat → FD) (ncl : Nat) (fcl : Nat → Nat → FD) : Prop := ((((Ref.root (0) (2)) = (Ref.root (0) (2))) ∧ (((FD.list [Sh.int IntKind.i64] ncp fcp) = (FD.list [Sh.int IntKind.i64] ncp fcp)) ∧ (true = true))) ∧ ((((Ref.root (0) (3)) = (Ref.root (0) (3))) ∧ (((FD.list [Sh.int IntKind.i64] ncl fcl) = (FD.list [Sh.int IntKind.i64] ncl fcl)) ∧ (true = true))) ∧ True))
abbrev eM (nps : Nat) (fps : Nat → Nat → FD) (pc : Int) : Prop := ((((Ref.root (0) (0)) = (Ref.root (0) (0))) ∧ (((FD.list [Sh.str, Sh.list [Sh.int IntKind.i64]] nps fps) = (FD.list [Sh.str, Sh.list [Sh.int IntKind.i64]] nps fps)) ∧ (true = true))) ∧ ((((IntKind.i64) = (IntKind.i64)) ∧ ((pc) = (pc))) ∧ True))
abbrev m7 (nps : Nat) (fps : Nat → Nat → FD) (pc : Int) (ncp : Nat) (fcp : Nat → Nat → FD) (ncl : Nat) (fcl : Nat → Nat → FD) (y2 : Nat) (y3 : Nat) : Prop := (∃ y4 : Nat, ((((y2 < nps ∧ ((aK (gF fps ncp fcp ncl fcl) y2) = ((0 : Int)))) ∧ (y4 ≤ FD.ln (fps y2 (1 : Nat)) ∧ ((aJ (BZ fps ncp fcp ncl fcl y2) y4) = (true)))) ∧ FD.ln (fps y2 (1 : Nat)) - y4 < FD.ln (fps y2 (1 : Nat)) - y3) ∧ (((true = true) ∧ ((eM nps fps pc) ∧ ((eK ncp fcp ncl fcl) ∧ ((((1, 1) ∈ ([(2, 2), (1, 1)] : List (Nat × Nat))) ∧ ((0) = (0))) ∧ ((((2, 2) ∈ ([(2, 2), (1, 1)] : List (Nat × Nat))) ∧ ((0) = (0))) ∧ ((((IntKind.i64) = (IntKind.i64)) ∧ (((0 : Int)) = ((0 : Int)))) ∧ ((((IntKind.i64) = (IntKind.i64)) ∧ (((0 : Int)) = ((0 : Int)))) ∧ ((((IntKind.i64) = (IntKind.i64)) ∧ ((Int.ofNat y2) = (Int.ofNat y2))) ∧ ((((IntKind.i64) = (IntKind.i64)) ∧ ((Int.ofNat y4) = (IntKind.wrap IntKind.i64 (Int.ofNat y3 + (1 : Int))))) ∧ True))))))))) ∧ (((((35 : TypeId)) = ((35 : TypeId))) ∧ (((2) = (2)) ∧ (eM nps fps pc))) ∧ (((((38 : TypeId)) = ((38 : TypeId))) ∧ (((2) = (2)) ∧ (eK ncp fcp ncl fcl))) ∧ True)))))
abbrev lC (nps : Nat) (fps : Nat → Nat → FD) (pc : Int) (ncp : Nat) (fcp : Nat → Nat → FD) (ncl : Nat) (fcl : Nat → Nat → FD) (y2 : Nat) (y3 : Nat) : Prop := (((aR ncp fcp (Int.ofNat y2)) = (true)) → ((((aR ncp fcp (Int.ofNat y2)) = (true)) → (m7 nps fps pc ncp fcp ncl fcl y2 y3)) ∧ (((aR ncp fcp (Int.ofNat y2)) = (false)) → False)))
abbrev kA (nps : Nat) (fps : Nat → Nat → FD) (pc : Int) (ncp : Nat) (fcp : Nat → Nat → FD) (ncl : Nat) (fcl : Nat → Nat → FD) (y2 : Nat) (y3 : Nat) : Prop := ((((aR ncp fcp (Int.ofNat y2)) = (true)) → ((lC nps fps pc ncp fcp ncl fcl y2 y3) ∧ (((aR ncp fcp (Int.ofNat y2)) = (false)) → False))) ∧ (((aR ncp fcp (Int.ofNat y2)) = (false)) → False))
abbrev lD (nps : Nat) (fps : Nat → Nat → FD) (pc : Int) (ncp : Nat) (fcp : Nat → Nat → FD) (ncl : Nat) (fcl : Nat → Nat → FD) (y2 : Nat) (y3 : Nat) : Prop := (((aR ncp fcp (Int.ofNat y2)) = (true)) → ((((aR ncp fcp (Int.ofNat y2)) = (true)) → (kA nps fps pc ncp fcp ncl fcl y2 y3)) ∧ (((aR ncp fcp (Int.ofNat y2)) = (false)) → False)))
abbrev kB (nps : Nat) (fps : Nat → Nat → FD) (pc : Int) (ncp : Nat) (fcp : Nat → Nat → FD) (ncl : Nat) (fcl : Nat → Nat → FD) (y2 : Nat) (y3 : Nat) : Prop := ((lD nps fps pc ncp fcp ncl fcl y2 y3) ∧ (((aR ncp fcp (Int.ofNat y2)) = (false)) → False))
abbrev m8 (nps : Nat) (fps : Nat → Nat → FD) (pc : Int) (ncp : Nat) (fcp : Nat → Nat → FD) (ncl : Nat) (fcl : Nat → Nat → FD) (y2 : Nat) (y3 : Nat) : Prop := (((aR ncp fcp (Int.ofNat y2)) = (true)) → ((((aR ncp fcp (Int.ofNat y2)) = (true)) → (kB nps fps pc ncp fcp ncl fcl y2 y3)) ∧ (((aR ncp fcp (Int.ofNat y2)) = (false)) → (kB nps fps pc ncp fcp ncl fcl y2 y3))))
abbrev m9 (nps : Nat) (fps : Nat → Nat → FD) (pc : Int) (ncp : Nat) (fcp : Nat → Nat → FD) (ncl : Nat) (fcl : Nat → Nat → FD) (y2 : Nat) (y3 : Nat) : Prop := (((aR ncp fcp (Int.ofNat y2)) = (true)) → ((m8 nps fps pc ncp fcp ncl fcl y2 y3) ∧ (((aR ncp fcp (Int.ofNat y2)) = (false)) → False)))
abbrev fZ (nps : Nat) (fps : Nat → Nat → FD) (pc : Int) (ncp : Nat) (fcp : Nat → Nat → FD) (ncl : Nat) (fcl : Nat → Nat → FD) (y2 : Nat) (y3 : Nat) : Prop := (((aR ncp fcp (Int.ofNat y2)) = (true)) → ((m9 nps fps pc ncp fcp ncl fcl y2 y3) ∧ (((aR ncp fcp (Int.ofNat y2)) = (false)) → False)))
abbrev kC (nps : Nat) (fps : Nat → Nat → FD) (pc : Int) (ncp : Nat) (fcp : Nat → Nat → FD) (ncl : Nat) (fcl : Nat → Nat → FD) (y2 : Nat) (y3 : Nat) : Prop := (((aR ncp fcp (Int.ofNat y2)) = (true)) → ((((aR ncp fcp (Int.ofNat y2)) = (true)) → ((fZ nps fps pc ncp fcp ncl fcl y2 y3) ∧ (((aR ncp fcp (Int.ofNat y2)) = (false)) → False))) ∧ (((aR ncp fcp (Int.ofNat y2)) = (false)) → ((fZ nps fps pc ncp fcp ncl fcl y2 y3) ∧ (((aR ncp fcp (Int.ofNat y2)) = (false)) → False)))))
abbrev rP (nps : Nat) (fps : Nat → Nat → FD) (pc : Int) (ncp : Nat) (fcp : Nat → Nat → FD) (ncl : Nat) (fcl : Nat → Nat → FD) (y2 : Nat) (y3 : Nat) : Prop := (((aR ncp fcp (Int.ofNat y2)) = (true)) → ((((aR ncp fcp (Int.ofNat y2)) = (true)) → ((kC nps fps pc ncp fcp ncl fcl y2 y3) ∧ (((aR ncp fcp (Int.ofNat y2)) = (false)) → False))) ∧ (((aR ncp fcp (Int.ofNat y2)) = (false)) → ((kC nps fps pc ncp fcp ncl fcl y2 y3) ∧ (((aR ncp fcp (Int.ofNat y2)) = (false)) → ((((aR ncp fcp (Int.ofNat y2)) = (true)) → ((fZ nps fps pc ncp fcp ncl fcl y2 y3) ∧ (((aR ncp fcp (Int.ofNat y2)) = (false)) → False))) ∧ (((aR ncp fcp (Int.ofNat y2)) = (false)) → ((fZ nps fps pc ncp fcp ncl fcl y2 y3) ∧ (((aR ncp fcp (Int.ofNat y2)) = (false)) → ((((decide ((0 : Int) ≤ Int.ofNat y2) && decide (Int.ofNat y2 < (↑nps : Int))) = (true)) → ((m9 nps fps pc ncp fcp ncl fcl y2 y3) ∧ (((aR ncp fcp (Int.ofNat y2)) = (false)) → ((m8 nps fps pc ncp fcp ncl fcl y2 y3) ∧ (((aR ncp fcp (Int.ofNat y2)) = (false)) → ((((aR ncp fcp (Int.ofNat y2)) = (true)) → (kB nps fps pc ncp fcp ncl fcl y2 y3)) ∧ (((aR ncp fcp (Int.ofNat y2)) = (false)) → ((lD nps fps pc ncp fcp ncl fcl y2 y3) ∧ (((aR ncp fcp (Int.ofNat y2)) = (false)) → ((((decide ((0 : Int) ≤ Int.ofNat y3) && decide (Int.ofNat y3 < (↑(FD.ln (fps (Int.toNat (Int.ofNat y2)) ((0 : Nat) + Field.offset { name := "Fits", type := (22 : Nat), offset := (1 : Nat), embedded := false, tag := "", pkgPath := "", byteOffset := (16 : Nat) }))) : Int))) = (true)) → ((((aR ncp fcp (Int.ofNat y2)) = (true)) → (kA nps fps pc ncp fcp ncl fcl y2 y3)) ∧ (((aR ncp fcp (Int.ofNat y2)) = (false)) → (kA nps fps pc ncp fcp ncl fcl y2 y3)))) ∧ (((decide ((0 : Int) ≤ Int.ofNat y3) && decide (Int.ofNat y3 < (↑(FD.ln (fps (Int.toNat (Int.ofNat y2)) ((0 : Nat) + Field.offset { name := "Fits", type := (22 : Nat), offset := (1 : Nat), embedded := false, tag := "", pkgPath := "", byteOffset := (16 : Nat) }))) : Int))) = (false)) → False))))))))))) ∧ (((decide ((0 : Int) ≤ Int.ofNat y2) && decide (Int.ofNat y2 < (↑nps : Int))) = (false)) → False)))))))))))
theorem JN : dA (mkR JL uR) Try.prog η0 27 (FI.of Try.f27 true) uS (.tup [.one (.int .i64), .one (.int .i64)]) jQ uT := by
 refine aM m6 fU Try.fok27 (fun fds => match fds with | [.list _ nps fps, .int _ pc, .list _ ncp fcp, .list _ ncl fcl] => DJ nps fps pc ncp fcp ncl fcl | _ => aZ fun _ => []) ?_
 intro fds hf hc
 obtain ⟨nps, fps, ds0, rfl, gps, hf1⟩ := hf.list
 obtain ⟨pc, ds1, rfl, hf2⟩ := hf1.int
 obtain ⟨ncp, fcp, ds2, rfl, gcp, hf3⟩ := hf2.list
 obtain ⟨ncl, fcl, ds3, rfl, gcl, hf4⟩ := hf3.list
 obtain rfl := hf4.nil
 have hc : (Nat.ble nps 26 && (Nat.ble ncp 30 && Nat.ble ncl 30)) = true := hc
 have hvc : (vcF JL uR (FI.of Try.f27 true) uS (.tup [.one (.int .i64), .one (.int .i64)]) (DJ nps fps pc ncp fcp ncl fcl) noR [.list [.str, .list [.int .i64]] nps fps, .int .i64 pc, .list [.int .i64] ncp fcp, .list [.int .i64] ncl fcl] (uT [.list [.str, .list [.int .i64]] nps fps, .int .i64 pc, .list [.int .i64] ncp fcp, .list [.int .i64] ncl fcl])) =
  ((true = true) ∧ (((true = true) → ((((decide (aK (cM fcp (Int.ofNat nps)) ncp = (0 : Int))) = (false)) → ((((IntKind.i64) = (IntKind.i64)) ∧ ((coV pc nps fps ncp fcp ncl fcl) = ((0 : Int)))) ∧ ((((IntKind.i64) = (IntKind.i64)) ∧ ((coE pc nps fps ncp fcp ncl fcl) = (aK (cM fcp (Int.ofNat nps)) ncp))) ∧ True))) ∧ (((decide (aK (cM fcp (Int.ofNat nps)) ncp = (0 : Int))) = (true)) → (((true = true) → ((((decide (aK (cM fcl pc) ncl = (0 : Int))) = (false)) → ((((IntKind.i64) = (IntKind.i64)) ∧ ((coV pc nps fps ncp fcp ncl fcl) = ((0 : Int)))) ∧ ((((IntKind.i64) = (IntKind.i64)) ∧ ((coE pc nps fps ncp fcp ncl fcl) = (aK (cM fcl pc) ncl))) ∧ True))) ∧ (((decide (aK (cM fcl pc) ncl = (0 : Int))) = (true)) → (∃ y0 : Nat, ((∃ y1 : Nat, (((y1 ≤ nps ∧ ((aK (gF fps ncp fcp ncl fcl) y1) = ((0 : Int)))) ∧ True) ∧ (((true = true) ∧ ((eM nps fps pc) ∧ ((eK ncp fcp ncl fcl) ∧ ((((1, 1) ∈ ([(2, 2), (1, 1)] : List (Nat × Nat))) ∧ ((0) = (0))) ∧ ((((2, 2) ∈ ([(2, 2), (1, 1)] : List (Nat × Nat))) ∧ ((0) = (0))) ∧ ((((IntKind.i64) = (IntKind.i64)) ∧ (((0 : Int)) = ((0 : Int)))) ∧ ((((IntKind.i64) = (IntKind.i64)) ∧ (((0 : Int)) = ((0 : Int)))) ∧ ((((IntKind.i64) = (IntKind.i64)) ∧ ((Int.ofNat y1) = ((0 : Int)))) ∧ True)))))))) ∧ (((((35 : TypeId)) = ((35 : Nat))) ∧ (((2) = (2)) ∧ (eM nps fps pc))) ∧ (((((38 : TypeId)) = ((38 : Nat))) ∧ (((2) = (2)) ∧ (eK ncp fcp ncl fcl))) ∧ True))))) ∧ (∀ y1 : Nat, ((y1 ≤ nps ∧ ((aK (gF fps ncp fcp ncl fcl) y1) = ((0 : Int)))) → ((((decide (Int.ofNat y1 < Int.ofNat nps)) = (true)) → (∃ y2 : Nat, ((∃ y3 : Nat, ((((y2 < nps ∧ ((aK (gF fps ncp fcp ncl fcl) y2) = ((0 : Int)))) ∧ (y3 ≤ FD.ln (fps y2 (1 : Nat)) ∧ ((aJ (BZ fps ncp fcp ncl fcl y2) y3) = (true)))) ∧ True) ∧ (((true = true) ∧ ((eM nps fps pc) ∧ ((eK ncp fcp ncl fcl) ∧ ((((1, 1) ∈ ([(2, 2), (1, 1)] : List (Nat × Nat))) ∧ ((0) = (0))) ∧ ((((2, 2) ∈ ([(2, 2), (1, 1)] : List (Nat × Nat))) ∧ ((0) = (0))) ∧ ((((IntKind.i64) = (IntKind.i64)) ∧ (((0 : Int)) = ((0 : Int)))) ∧ ((((IntKind.i64) = (IntKind.i64)) ∧ (((0 : Int)) = ((0 : Int)))) ∧ ((((IntKind.i64) = (IntKind.i64)) ∧ ((Int.ofNat y2) = (Int.ofNat y1))) ∧ ((((IntKind.i64) = (IntKind.i64)) ∧ ((Int.ofNat y3) = ((0 : Int)))) ∧ True))))))))) ∧ (((((35 : TypeId)) = ((35 : TypeId))) ∧ (((2) = (2)) ∧ (eM nps fps pc))) ∧ (((((38 : TypeId)) = ((38 : TypeId))) ∧ (((2) = (2)) ∧ (eK ncp fcp ncl fcl))) ∧ True))))) ∧ (∀ y3 : Nat, (((y2 < nps ∧ ((aK (gF fps ncp fcp ncl fcl) y2) = ((0 : Int)))) ∧ (y3 ≤ FD.ln (fps y2 (1 : Nat)) ∧ ((aJ (BZ fps ncp fcp ncl fcl y2) y3) = (true)))) → ((((decide ((0 : Int) ≤ Int.ofNat y2) && decide (Int.ofNat y2 < (↑nps : Int))) = (true)) → ((((decide (Int.ofNat y3 < Int.ofNat (FD.ln (fps (Int.toNat (Int.ofNat y2)) ((0 : Nat) + Field.offset { name := "Fits", type := (22 : Nat), offset := (1 : Nat), embedded := false, tag := "", pkgPath := "", byteOffset := (16 : Nat) }))))) = (true)) → (((true = true) → ((((aR ncp fcp (Int.ofNat y2)) = (true)) → ((rP nps fps pc ncp fcp ncl fcl y2 y3) ∧ (((aR ncp fcp (Int.ofNat y2)) = (false)) → False))) ∧ (((aR ncp fcp (Int.ofNat y2)) = (false)) → ((rP nps fps pc ncp fcp ncl fcl y2 y3) ∧ (((aR ncp fcp (Int.ofNat y2)) = (false)) → ((((aR ncp fcp (Int.ofNat y2)) = (true)) → ((kC nps fps pc ncp fcp ncl fcl y2 y3) ∧ (((aR ncp fcp (Int.ofNat y2)) = (false)) → False))) ∧ (((aR ncp fcp (Int.ofNat y2)) = (false)) → ((kC nps fps pc ncp fcp ncl fcl y2 y3) ∧ (((aR ncp fcp (Int.ofNat y2)) = (false)) → ((((aR ncp fcp (Int.ofNat y2)) = (true)) → ((fZ nps fps pc ncp fcp ncl fcl y2 y3) ∧ (((aR ncp fcp (Int.ofNat y2)) = (false)) → False))) ∧ (((aR ncp fcp (Int.ofNat y2)) = (false)) → ((fZ nps fps pc ncp fcp ncl fcl y2 y3) ∧ (((aR ncp fcp (Int.ofNat y2)) = (false)) → ((((decide ((0 : Int) ≤ Int.ofNat y2) && decide (Int.ofNat y2 < (↑nps : Int))) = (true)) → ((m9 nps fps pc ncp fcp ncl fcl y2 y3) ∧ (((aR ncp fcp (Int.ofNat y2)) = (false)) → ((m8 nps fps pc ncp fcp ncl fcl y2 y3) ∧ (((aR ncp fcp (Int.ofNat y2)) = (false)) → ((((aR ncp fcp (Int.ofNat y2)) = (true)) → (kB nps fps pc ncp fcp ncl fcl y2 y3)) ∧ (((aR ncp fcp (Int.ofNat y2)) = (false)) → ((lD nps fps pc ncp fcp ncl fcl y2 y3) ∧ (((aR ncp fcp (Int.ofNat y2)) = (false)) → ((((decide ((0 : Int) ≤ Int.ofNat y3) && decide (Int.ofNat y3 < (↑(FD.ln (fps (Int.toNat (Int.ofNat y2)) ((0 : Nat) + Field.offset { name := "Fits", type := (22 : Nat), offset := (1 : Nat), embedded := false, tag := "", pkgPath := "", byteOffset := (16 : Nat) }))) : Int))) = (true)) → ((((aR ncp fcp (Int.ofNat y2)) = (true)) → (kA nps fps pc ncp fcp ncl fcl y2 y3)) ∧ (((aR ncp fcp (Int.ofNat y2)) = (false)) → ((((aR ncp fcp (Int.ofNat y2)) = (true)) → ((lC nps fps pc ncp fcp ncl fcl y2 y3) ∧ (((aR ncp fcp (Int.ofNat y2)) = (false)) → False))) ∧ (((aR ncp fcp (Int.ofNat y2)) = (false)) → (((true = true) → ((lC nps fps pc ncp fcp ncl fcl y2 y3) ∧ (((aR ncp fcp (Int.ofNat y2)) = (false)) → ((((aR ncp fcp (Int.ofNat y2)) = (true)) → (m7 nps fps pc ncp fcp ncl fcl y2 y3)) ∧ (((aR ncp fcp (Int.ofNat y2)) = (false)) → ((((aR ncl fcl (FD.i (FD.fn (fps (Int.toNat (Int.ofNat y2)) ((0 : Nat) + Field.offset { name := "Fits", type := (22 : Nat), offset := (1 : Nat), embedded := false, tag := "", pkgPath := "", byteOffset := (16 : Nat) })) (Int.toNat (Int.ofNat y3)) (0 : Nat)))) = (false)) → ((((IntKind.i64) = (IntKind.i64)) ∧ ((coV pc nps fps ncp fcp ncl fcl) = ((0 : Int)))) ∧ ((((IntKind.i64) = (IntKind.i64)) ∧ ((coE pc nps fps ncp fcp ncl fcl) = ((20 : Int)))) ∧ True))) ∧ (((aR ncl fcl (FD.i (FD.fn (fps (Int.toNat (Int.ofNat y2)) ((0 : Nat) + Field.offset { name := "Fits", type := (22 : Nat), offset := (1 : Nat), embedded := false, tag := "", pkgPath := "", byteOffset := (16 : Nat) })) (Int.toNat (Int.ofNat y3)) (0 : Nat)))) = (true)) → (m7 nps fps pc ncp fcp ncl fcl y2 y3)))))))) ∧ ((true = false) → False))))))) ∧ (((decide ((0 : Int) ≤ Int.ofNat y3) && decide (Int.ofNat y3 < (↑(FD.ln (fps (Int.toNat (Int.ofNat y2)) ((0 : Nat) + Field.offset { name := "Fits", type := (22 : Nat), offset := (1 : Nat), embedded := false, tag := "", pkgPath := "", byteOffset := (16 : Nat) }))) : Int))) = (false)) → False))))))))))) ∧ (((decide ((0 : Int) ≤ Int.ofNat y2) && decide (Int.ofNat y2 < (↑nps : Int))) = (false)) → False))))))))))))))) ∧ ((true = false) → False))) ∧ (((decide (Int.ofNat y3 < Int.ofNat (FD.ln (fps (Int.toNat (Int.ofNat y2)) ((0 : Nat) + Field.offset { name := "Fits", type := (22 : Nat), offset := (1 : Nat), embedded := false, tag := "", pkgPath := "", byteOffset := (16 : Nat) }))))) = (false)) → (∃ y4 : Nat, (((y4 ≤ nps ∧ ((aK (gF fps ncp fcp ncl fcl) y4) = ((0 : Int)))) ∧ nps - y4 < nps - y1) ∧ (((true = true) ∧ ((eM nps fps pc) ∧ ((eK ncp fcp ncl fcl) ∧ ((((1, 1) ∈ ([(2, 2), (1, 1)] : List (Nat × Nat))) ∧ ((0) = (0))) ∧ ((((2, 2) ∈ ([(2, 2), (1, 1)] : List (Nat × Nat))) ∧ ((0) = (0))) ∧ ((((IntKind.i64) = (IntKind.i64)) ∧ (((0 : Int)) = ((0 : Int)))) ∧ ((((IntKind.i64) = (IntKind.i64)) ∧ (((0 : Int)) = ((0 : Int)))) ∧ ((((IntKind.i64) = (IntKind.i64)) ∧ ((Int.ofNat y4) = (IntKind.wrap IntKind.i64 (Int.ofNat y2 + (1 : Int))))) ∧ True)))))))) ∧ (((((35 : TypeId)) = ((35 : TypeId))) ∧ (((2) = (2)) ∧ (eM nps fps pc))) ∧ (((((38 : TypeId)) = ((38 : TypeId))) ∧ (((2) = (2)) ∧ (eK ncp fcp ncl fcl))) ∧ True)))))))) ∧ (((decide ((0 : Int) ≤ Int.ofNat y2) && decide (Int.ofNat y2 < (↑nps : Int))) = (false)) → False))))))) ∧ (((decide (Int.ofNat y1 < Int.ofNat nps)) = (false)) → ((((IntKind.i64) = (IntKind.i64)) ∧ ((coV pc nps fps ncp fcp ncl fcl) = (IntKind.wrap IntKind.i64 (Int.ofNat ncp + Int.ofNat ncl)))) ∧ ((((IntKind.i64) = (IntKind.i64)) ∧ ((coE pc nps fps ncp fcp ncl fcl) = ((0 : Int)))) ∧ True))))))))))) ∧ ((true = false) → False))))) ∧ ((true = false) → False))) := by kernel_rfl
 refine hvc.mpr ?_
 clear hvc
 dsimp only [eK, eM, m7, lC, kA, lD, kB, m8, m9, fZ, kC, rP]
 simp only [Bool.and_eq_true] at hc
 have hn := Nat.le_of_ble_eq_true hc.1
 have hp := Nat.le_of_ble_eq_true hc.2.1
 have hq := Nat.le_of_ble_eq_true hc.2.2
 by_cases h1 : aK (cM fcp (nps : Int)) ncp = 0
 ·by_cases h2 : aK (cM fcl pc) ncl = 0
  ·have eE : coE pc nps fps ncp fcp ncl fcl = aK (gF fps ncp fcp ncl fcl) nps := by rw [coE, cC, h1, h2]; rfl
   simp [h1, h2]
   refine ⟨rfl, fun y hy he => ⟨fun hlt => ⟨y, ⟨⟨⟨hlt, he⟩, rfl⟩, rfl⟩, fun k _ _ hk hka => ?_⟩, fun hge => ?_⟩⟩
   have w1 : ∀ k : Nat, k < 1000000000000000000 → ((k + 1 : Nat) : Int) = IntKind.i64.wrap ((k : Int) + 1) := fun k hk => by
    rw [aQ (by omega) (by omega)]
    rfl
   have hml : (fps y 1).ln ≤ 9223372036854775807 := by
    obtain ⟨g1, g2⟩ := gps.at hlt (show 1 < [Sh.str, Sh.list [Sh.int IntKind.i64]].length by simp)
    rw [← g1] at g2
    exact g2.len
   have w2 : ∀ k : Nat, k < (fps y 1).ln → ((k + 1 : Nat) : Int) = IntKind.i64.wrap ((k : Int) + 1) := fun k hk => by
    rw [aQ (by omega) (by omega)]
    rfl
   have nxt : (fps y 1).ln ≤ k → ∃ y4, ((y4 ≤ nps ∧ aK (gF fps ncp fcp ncl fcl) y4 = 0) ∧ nps - y4 < nps - y) ∧ (y4 : Int) = IntKind.i64.wrap ((y : Int) + 1) := fun h =>
    ⟨y + 1, ⟨⟨by omega, lA he (by rw [gF, show (fps y 1).ln = k by omega, if_pos hka])⟩, by omega⟩, w1 y (by omega)⟩
   ·cases hh : aR ncp fcp (y : Int)
    ·simp [hh]
     refine ⟨fun _ => ⟨fun hkl => ⟨fun _ => ⟨fun _ => ⟨fun hb => ?_, fun hb => ⟨k + 1, ⟨⟨⟨hlt, he⟩, by omega, w4 hka (by rw [BZ, hb, Bool.or_true])⟩, by omega⟩, w2 k hkl⟩⟩, hkl⟩, hlt⟩, nxt⟩, hlt⟩
     have e : gF fps ncp fcp ncl fcl y = 20 := by rw [gF, w3 hkl (by rw [BZ, hh, hb]; rfl)]; rfl
     have e2 := (j8 he (by omega) hlt).1
     rw [e, ← eE] at e2
     exact ⟨by rw [coV, e2]; rfl, e2⟩
    ·simp [hh]
     exact ⟨fun _ => ⟨fun hkl => ⟨k + 1, ⟨⟨⟨hlt, he⟩, by omega, w4 hka (by rw [BZ, hh]; rfl)⟩, by omega⟩, w2 k hkl⟩, nxt⟩, hlt⟩
   ·obtain rfl : y = nps := by omega
    rw [coV, eE, he, aQ (by omega) (by omega)]
    exact ⟨rfl, rfl⟩
  ·have eE : coE pc nps fps ncp fcp ncl fcl = aK (cM fcl pc) ncl := by rw [coE, cC, h1, if_pos rfl, if_neg h2]
   simp [coV, eE, h1, h2]
 ·have eE : coE pc nps fps ncp fcp ncl fcl = aK (cM fcp nps) ncp := by rw [coE, cC, if_neg h1]
  simp [coV, eE, h1]
end
end Go.Ex


namespace Go.Ex
open Go Go.Proofs Go.RowKit
noncomputable section
set_option maxRecDepth 1000000

theorem oU {α : Type} [DecidableEq α] : ∀ {l m : List α}, l.Nodup → (∀ x, x ∈ l → x ∈ m) → l.length ≤ m.length
 | [], _, _, _ => Nat.zero_le _
 | a :: l, m, hn, hs => by
  have ha := hs a (List.mem_cons_self ..)
  obtain ⟨h1, h2⟩ := List.nodup_cons.1 hn
  have := oU (m := m.erase a) h2 fun x hx => (List.mem_erase_of_ne (fun e => by subst e; exact h1 hx)).2 (hs x (List.mem_cons_of_mem _ hx))
  rw [List.length_erase_of_mem ha] at this
  have := List.length_pos_of_mem ha
  simp only [List.length_cons]
  omega
theorem tB {n : Nat} {f : Nat → Nat → FD} {v : Int} (h : aR n f v = true) : ∃ i, i < n ∧ (f i 0).i = v := by
 obtain ⟨i, _, h2, h3⟩ := CM h
 exact ⟨i, by omega, of_decide_eq_true h3⟩
theorem F6 {n : Nat} {f : Nat → Nat → FD} {v : Int} (h : aR n f v = false) : ∀ i, i < n → (f i 0).i ≠ v := fun i hi =>
 of_decide_eq_false (mO h i (by omega) (by omega))
def NY (n : Nat) (f : Nat → Nat → FD) : List Int := (List.range n).map fun i => (f i 0).i
theorem JO {n : Nat} {f : Nat → Nat → FD} {v : Int} (h : aR n f v = true) : v ∈ NY n f := by
 obtain ⟨i, h1, h2⟩ := tB h
 exact List.mem_map.2 ⟨i, List.mem_range.2 h1, h2⟩
/-- Parts of the cover that have a place, and the others that have one. -/
def inP (ncp : Nat) (fcp g : Nat → Nat → FD) (i : Nat) : Bool := !decide ((g i 0).i = -1) && aR ncp fcp (i : Int)
def noP (ncp : Nat) (fcp g : Nat → Nat → FD) (i : Nat) : Bool := !decide ((g i 0).i = -1) && !aR ncp fcp (i : Int)
theorem oV (ncp : Nat) (fcp g : Nat → Nat → FD) : ∀ n, cQ g n = (((List.range n).filter (inP ncp fcp g)).length : Int) + ((List.range n).filter (noP ncp fcp g)).length
 | 0 => rfl
 | n + 1 => by
  rw [cQ, oV ncp fcp g n, List.range_succ, List.filter_append, List.filter_append, List.length_append, List.length_append]
  by_cases h : (g n 0).i = -1
  ·have e1 : inP ncp fcp g n = false := by rw [inP, decide_eq_true h]; rfl
   have e2 : noP ncp fcp g n = false := by rw [noP, decide_eq_true h]; rfl
   rw [if_pos h]
   simp [List.filter, e1, e2]
  ·rw [if_neg h]
   cases hb : aR ncp fcp (n : Int) with
   | true =>
    have e1 : inP ncp fcp g n = true := by rw [inP, decide_eq_false h, hb]; rfl
    have e2 : noP ncp fcp g n = false := by rw [noP, decide_eq_false h, hb]; rfl
    simp [List.filter, e1, e2]
    omega
   | false =>
    have e1 : inP ncp fcp g n = false := by rw [inP, decide_eq_false h, hb]; rfl
    have e2 : noP ncp fcp g n = true := by rw [noP, decide_eq_false h, hb]; rfl
    simp [List.filter, e1, e2]
    omega
theorem BK {pc : Int} {f g : Nat → Nat → FD} {i : Nat} (h : eP pc f g i = 0) (hi : (g i 0).i ≠ -1) : aR (f i 1).ln (f i 1).fn (g i 0).i = true ∧ aR i g (g i 0).i = false := by
 rw [eP, if_neg hi] at h
 split at h
 ·split at h
  ·rename_i h1
   split at h
   ·omega
   ·rename_i h2
    exact ⟨h1, by simpa using h2⟩
  ·omega
 ·omega
theorem MB {f : Nat → Nat → FD} {ncp : Nat} {fcp : Nat → Nat → FD} {ncl : Nat} {fcl : Nat → Nat → FD} {i : Nat} (h : gF f ncp fcp ncl fcl i = 0) (hi : aR ncp fcp (i : Int) = false) : ∀ k, k < (f i 1).ln → aR ncl fcl ((f i 1).fn k 0).i = true := fun k hk => by
 rw [gF] at h
 split at h
 ·rename_i h1
  have := bJ h1 k hk
  rw [BZ, hi, Bool.false_or] at this
  exact this
 ·omega
theorem SA {pc : Int} {n : Nat} {f g : Nat → Nat → FD} {ncp : Nat} {fcp : Nat → Nat → FD} {ncl : Nat} {fcl : Nat → Nat → FD} (h1 : aK (eP pc f g) n = 0) (h2 : aK (gF f ncp fcp ncl fcl) n = 0) : cQ g n ≤ (ncp : Int) + ncl := by
 rw [oV ncp fcp g n]
 have a1 : (((List.range n).filter (inP ncp fcp g)).map fun i : Nat => (i : Int)).length ≤ (NY ncp fcp).length := by
  refine oU ?_ ?_
  ·refine List.pairwise_map.2 (List.Pairwise.imp ?_ (List.Pairwise.filter _ (List.nodup_range (n := n))))
   intro a b hab e
   omega
  ·intro x hx
   obtain ⟨i, hi, rfl⟩ := List.mem_map.1 hx
   have := (List.mem_filter.1 hi).2
   simp only [inP, Bool.and_eq_true] at this
   exact JO this.2
 have a2 : (((List.range n).filter (noP ncp fcp g)).map fun i : Nat => (g i 0).i).length ≤ (NY ncl fcl).length := by
  refine oU ?_ ?_
  ·refine List.pairwise_map.2 (List.Pairwise.imp_of_mem ?_ (List.Pairwise.filter _ (List.pairwise_lt_range (n := n))))
   intro a b ha hb hab e
   obtain ⟨b1, b2⟩ := List.mem_filter.1 hb
   simp only [noP, Bool.and_eq_true, Bool.not_eq_true', decide_eq_false_iff_not] at b2
   have hbn := List.mem_range.1 b1
   exact F6 (BK (lY h1 b hbn) b2.1).2 a hab e
  ·intro x hx
   obtain ⟨i, hi, rfl⟩ := List.mem_map.1 hx
   obtain ⟨b1, b2⟩ := List.mem_filter.1 hi
   simp only [noP, Bool.and_eq_true, Bool.not_eq_true', decide_eq_false_iff_not] at b2
   have hin := List.mem_range.1 b1
   obtain ⟨k, hk, e⟩ := tB (BK (lY h1 i hin) b2.1).1
   have := MB (lY h2 i hin) b2.2 k hk
   rw [e] at this
   exact JO this
 simp only [List.length_map, NY, List.length_range] at a1 a2
 omega
end
end Go.Ex

