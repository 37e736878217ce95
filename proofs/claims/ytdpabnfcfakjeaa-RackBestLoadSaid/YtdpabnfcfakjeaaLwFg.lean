/-
 Contracts: checks of a flow; thicknesses.
-/
import Derived.Test.YtdpabnfcfakjeaaLwFef

namespace Go.Ex
open Go Go.Proofs Go.RowKit
noncomputable section

/-- The error of the rows. -/
def lW (ho : Int) (f : Nat → Nat → FD) : Nat → Nat → Int
 | 0, _ => 0
 | n + 1, x => if ((f x 0).ln : Int) = ho then (if eO (fun i => aX 100 ((f x 0).fn i 0).i) (f x 0).ln 0 = true then 2 else lW ho f n (x + 1)) else 12
def b7 (st pl ho ge : Int) (n : Nat) (f : Nat → Nat → FD) : Int :=
 if cV st pl ho ge = 0 then (if (n : Int) = st then lW ho f n 0 else 12) else cV st pl ho ge
def rB : List PT := [.agg [.int .i64, .int .i64, .int .i64, .int .i64], .one (.list [.list [.int .i64]])]
def AQ : List FD → Bool
 | [.int _ _, .int _ _, .int _ _, .int _ _, .list _ _ _] => true
 | _ => false
def rC : List FD → List FD
 | [.int _ st, .int _ pl, .int _ ho, .int _ ge, .list _ nfl ffl] => [.int .i64 (b7 st pl ho ge nfl ffl)]
 | _ => []
def AR (st : Int) (pl : Int) (ho : Int) (ge : Int) (nfl : Nat) (ffl : Nat → Nat → FD) : Nat → b9 := fun i => match i with | 7 => ⟨Nat, fun _ => [{ι := Nat, G := fun x => x ≤ nfl ∧ lW ho ffl (nfl - x) x = lW ho ffl nfl 0, μ := fun x => nfl - x, tl := fun x => [(0, .agg [.int IntKind.i64 (.tm st), .int IntKind.i64 (.tm pl), .int IntKind.i64 (.tm ho), .int IntKind.i64 (.tm ge)]), (1, .one (.fz (.root 0 4) (FD.list [Sh.list [Sh.int IntKind.i64]] nfl ffl))), (2, .one (.ptr (some (1, 0)))), (8, .agg [.int IntKind.i64 (.tm st), .int IntKind.i64 (.tm pl), .int IntKind.i64 (.tm ho), .int IntKind.i64 (.tm ge)]), (13, .one (.fz (.root 0 4) (FD.list [Sh.list [Sh.int IntKind.i64]] nfl ffl))), (14, .one (.int IntKind.i64 (.tm (Int.ofNat nfl)))), (15, .one (.ptr (some (1, 0)))), (16, .one (.int IntKind.i64 (.tm st))), (18, .one (.fz (.root 0 4) (FD.list [Sh.list [Sh.int IntKind.i64]] nfl ffl))), (19, .one (.int IntKind.i64 (.tm (Int.ofNat nfl)))), (20, .one (.int IntKind.i64 (.tm (Int.ofNat x))))], bl := fun x => [(1, .cells 47 4 [.int IntKind.i64 (.tm st), .int IntKind.i64 (.tm pl), .int IntKind.i64 (.tm ho), .int IntKind.i64 (.tm ge)])], nx := (1 : Nat) + (1 : Nat)}]⟩ | _ => ⟨Nat, fun _ => []⟩
theorem FK : dA (mkR sm4 gs2) Try.prog η0 47 (FI.of Try.f47 true) rB (.one (.int .i64)) AQ rC := by
 refine aM LX bT Try.fok47 (fun fds => match fds with | [.int _ st, .int _ pl, .int _ ho, .int _ ge, .list _ nfl ffl] => AR st pl ho ge nfl ffl | _ => aZ fun _ => []) ?_
 intro fds hf hc
 obtain ⟨st, ds0, rfl, hf1⟩ := hf.int
 obtain ⟨pl, ds1, rfl, hf2⟩ := hf1.int
 obtain ⟨ho, ds2, rfl, hf3⟩ := hf2.int
 obtain ⟨ge, ds3, rfl, hf4⟩ := hf3.int
 obtain ⟨nfl, ffl, ds4, rfl, gfl, hf5⟩ := hf4.list
 obtain rfl := hf5.nil
 have hc : (true) = true := hc
 have hvc : (vcF sm4 gs2 (FI.of Try.f47 true) rB (.one (.int .i64)) (AR st pl ho ge nfl ffl) noR [.int .i64 st, .int .i64 pl, .int .i64 ho, .int .i64 ge, .list [.list [.int .i64]] nfl ffl] (rC [.int .i64 st, .int .i64 pl, .int .i64 ho, .int .i64 ge, .list [.list [.int .i64]] nfl ffl])) =
  ((true = true) ∧ (((true = true) → ((((decide (cV st pl ho ge = (0 : Int))) = (false)) → (((IntKind.i64) = (IntKind.i64)) ∧ ((b7 st pl ho ge nfl ffl) = (cV st pl ho ge)))) ∧ (((decide (cV st pl ho ge = (0 : Int))) = (true)) → ((((decide (Int.ofNat nfl = st)) = (false)) → (((IntKind.i64) = (IntKind.i64)) ∧ ((b7 st pl ho ge nfl ffl) = ((12 : Int))))) ∧ (((decide (Int.ofNat nfl = st)) = (true)) → (∃ y0 : Nat, ((∃ y1 : Nat, (((y1 ≤ nfl ∧ ((lW ho ffl (nfl - y1) y1) = (lW ho ffl nfl (0 : Nat)))) ∧ True) ∧ (((true = true) ∧ (((((IntKind.i64) = (IntKind.i64)) ∧ ((st) = (st))) ∧ ((((IntKind.i64) = (IntKind.i64)) ∧ ((pl) = (pl))) ∧ ((((IntKind.i64) = (IntKind.i64)) ∧ ((ho) = (ho))) ∧ ((((IntKind.i64) = (IntKind.i64)) ∧ ((ge) = (ge))) ∧ True)))) ∧ ((((Ref.root (0) (4)) = (Ref.root (0) (4))) ∧ (((FD.list [Sh.list [Sh.int IntKind.i64]] nfl ffl) = (FD.list [Sh.list [Sh.int IntKind.i64]] nfl ffl)) ∧ (true = true))) ∧ ((((1, 1) ∈ ([(1, 1)] : List (Nat × Nat))) ∧ ((Prod.snd ((1 : Nat), (0 : Nat))) = (Prod.snd ((1 : Nat), (0 : Nat))))) ∧ (((((IntKind.i64) = (IntKind.i64)) ∧ ((st) = (st))) ∧ ((((IntKind.i64) = (IntKind.i64)) ∧ ((pl) = (pl))) ∧ ((((IntKind.i64) = (IntKind.i64)) ∧ ((ho) = (ho))) ∧ ((((IntKind.i64) = (IntKind.i64)) ∧ ((ge) = (ge))) ∧ True)))) ∧ ((((Ref.root (0) (4)) = (Ref.root (0) (4))) ∧ (((FD.list [Sh.list [Sh.int IntKind.i64]] nfl ffl) = (FD.list [Sh.list [Sh.int IntKind.i64]] nfl ffl)) ∧ (true = true))) ∧ ((((IntKind.i64) = (IntKind.i64)) ∧ ((Int.ofNat nfl) = (Int.ofNat nfl))) ∧ ((((1, 1) ∈ ([(1, 1)] : List (Nat × Nat))) ∧ ((Prod.snd ((1 : Nat), (0 : Nat))) = (Prod.snd ((1 : Nat), (0 : Nat) + Field.offset { name := "Stations", type := (3 : Nat), offset := (0 : Nat), embedded := false, tag := "", pkgPath := "", byteOffset := (0 : Nat) })))) ∧ ((((IntKind.i64) = (IntKind.i64)) ∧ ((st) = (st))) ∧ ((((Ref.root (0) (4)) = (Ref.root (0) (4))) ∧ (((FD.list [Sh.list [Sh.int IntKind.i64]] nfl ffl) = (FD.list [Sh.list [Sh.int IntKind.i64]] nfl ffl)) ∧ (true = true))) ∧ ((((IntKind.i64) = (IntKind.i64)) ∧ ((Int.ofNat nfl) = (Int.ofNat nfl))) ∧ ((((IntKind.i64) = (IntKind.i64)) ∧ ((Int.ofNat y1) = ((0 : Int)))) ∧ True)))))))))))) ∧ (((((47 : TypeId)) = ((47 : Nat))) ∧ ((((4 : Nat)) = (List.length [Sc.int IntKind.i64 (Ix.tm st), Sc.int IntKind.i64 (Ix.tm pl), Sc.int IntKind.i64 (Ix.tm ho), Sc.int IntKind.i64 (Ix.tm ge)])) ∧ ((((IntKind.i64) = (IntKind.i64)) ∧ ((st) = (st))) ∧ ((((IntKind.i64) = (IntKind.i64)) ∧ ((pl) = (pl))) ∧ ((((IntKind.i64) = (IntKind.i64)) ∧ ((ho) = (ho))) ∧ ((((IntKind.i64) = (IntKind.i64)) ∧ ((ge) = (ge))) ∧ True)))))) ∧ True)))) ∧ (∀ y1 : Nat, ((y1 ≤ nfl ∧ ((lW ho ffl (nfl - y1) y1) = (lW ho ffl nfl (0 : Nat)))) → ((((decide (Int.ofNat y1 < Int.ofNat nfl)) = (true)) → ((((decide ((0 : Int) ≤ Int.ofNat y1) && decide (Int.ofNat y1 < (↑nfl : Int))) = (true)) → ((((decide (Int.ofNat (FD.ln (ffl (Int.toNat (Int.ofNat y1)) (0 : Nat))) = ho)) = (false)) → (((IntKind.i64) = (IntKind.i64)) ∧ ((b7 st pl ho ge nfl ffl) = ((12 : Int))))) ∧ (((decide (Int.ofNat (FD.ln (ffl (Int.toNat (Int.ofNat y1)) (0 : Nat))) = ho)) = (true)) → (((true = true) → ((((eO (fun (i : Nat) => aX (100 : Int) (FD.i (FD.fn (ffl (Int.toNat (Int.ofNat y1)) (0 : Nat)) i (0 : Nat)))) (FD.ln (ffl (Int.toNat (Int.ofNat y1)) (0 : Nat))) (0 : Nat)) = (true)) → (((IntKind.i64) = (IntKind.i64)) ∧ ((b7 st pl ho ge nfl ffl) = ((2 : Int))))) ∧ (((eO (fun (i : Nat) => aX (100 : Int) (FD.i (FD.fn (ffl (Int.toNat (Int.ofNat y1)) (0 : Nat)) i (0 : Nat)))) (FD.ln (ffl (Int.toNat (Int.ofNat y1)) (0 : Nat))) (0 : Nat)) = (false)) → (∃ y2 : Nat, (((y2 ≤ nfl ∧ ((lW ho ffl (nfl - y2) y2) = (lW ho ffl nfl (0 : Nat)))) ∧ nfl - y2 < nfl - y1) ∧ (((true = true) ∧ (((((IntKind.i64) = (IntKind.i64)) ∧ ((st) = (st))) ∧ ((((IntKind.i64) = (IntKind.i64)) ∧ ((pl) = (pl))) ∧ ((((IntKind.i64) = (IntKind.i64)) ∧ ((ho) = (ho))) ∧ ((((IntKind.i64) = (IntKind.i64)) ∧ ((ge) = (ge))) ∧ True)))) ∧ ((((Ref.root (0) (4)) = (Ref.root (0) (4))) ∧ (((FD.list [Sh.list [Sh.int IntKind.i64]] nfl ffl) = (FD.list [Sh.list [Sh.int IntKind.i64]] nfl ffl)) ∧ (true = true))) ∧ ((((1, 1) ∈ ([(1, 1)] : List (Nat × Nat))) ∧ ((Prod.snd ((1 : Nat), (0 : Nat))) = (Prod.snd ((1 : Nat), (0 : Nat))))) ∧ (((((IntKind.i64) = (IntKind.i64)) ∧ ((st) = (st))) ∧ ((((IntKind.i64) = (IntKind.i64)) ∧ ((pl) = (pl))) ∧ ((((IntKind.i64) = (IntKind.i64)) ∧ ((ho) = (ho))) ∧ ((((IntKind.i64) = (IntKind.i64)) ∧ ((ge) = (ge))) ∧ True)))) ∧ ((((Ref.root (0) (4)) = (Ref.root (0) (4))) ∧ (((FD.list [Sh.list [Sh.int IntKind.i64]] nfl ffl) = (FD.list [Sh.list [Sh.int IntKind.i64]] nfl ffl)) ∧ (true = true))) ∧ ((((IntKind.i64) = (IntKind.i64)) ∧ ((Int.ofNat nfl) = (Int.ofNat nfl))) ∧ ((((1, 1) ∈ ([(1, 1)] : List (Nat × Nat))) ∧ ((Prod.snd ((1 : Nat), (0 : Nat))) = (Prod.snd ((1 : Nat), (0 : Nat))))) ∧ ((((IntKind.i64) = (IntKind.i64)) ∧ ((st) = (st))) ∧ ((((Ref.root (0) (4)) = (Ref.root (0) (4))) ∧ (((FD.list [Sh.list [Sh.int IntKind.i64]] nfl ffl) = (FD.list [Sh.list [Sh.int IntKind.i64]] nfl ffl)) ∧ (true = true))) ∧ ((((IntKind.i64) = (IntKind.i64)) ∧ ((Int.ofNat nfl) = (Int.ofNat nfl))) ∧ ((((IntKind.i64) = (IntKind.i64)) ∧ ((Int.ofNat y2) = (IntKind.wrap IntKind.i64 (Int.ofNat y1 + (1 : Int))))) ∧ True)))))))))))) ∧ (((((47 : TypeId)) = ((47 : TypeId))) ∧ ((((4 : Nat)) = ((4 : Nat))) ∧ ((((IntKind.i64) = (IntKind.i64)) ∧ ((st) = (st))) ∧ ((((IntKind.i64) = (IntKind.i64)) ∧ ((pl) = (pl))) ∧ ((((IntKind.i64) = (IntKind.i64)) ∧ ((ho) = (ho))) ∧ ((((IntKind.i64) = (IntKind.i64)) ∧ ((ge) = (ge))) ∧ True)))))) ∧ True))))))) ∧ ((true = false) → False))))) ∧ (((decide ((0 : Int) ≤ Int.ofNat y1) && decide (Int.ofNat y1 < (↑nfl : Int))) = (false)) → False))) ∧ (((decide (Int.ofNat y1 < Int.ofNat nfl)) = (false)) → (((IntKind.i64) = (IntKind.i64)) ∧ ((b7 st pl ho ge nfl ffl) = ((0 : Int))))))))))))))) ∧ ((true = false) → False))) := by kernel_rfl
 refine hvc.mpr ?_
 clear hvc
 have hl := gfl.len
 have hl' : maxLen = 9223372036854775807 := rfl
 simp
 unfold b7
 refine ⟨fun h => by rw [if_neg h], fun h => ?_⟩
 rw [if_pos h]
 refine ⟨fun g => by rw [if_neg g], fun g => ?_⟩
 rw [if_pos g]
 intro x hx he
 rw [← he]
 refine ⟨fun h => ⟨fun _ => ?_, h⟩, fun h => by rw [show nfl - x = 0 by omega]; rfl⟩
 rw [show nfl - x = nfl - (x + 1) + 1 by omega, lW]
 refine ⟨fun a => by rw [if_neg a], fun a => ⟨fun b => by rw [if_pos a, if_pos b], fun b => ⟨x + 1, ⟨⟨by omega, ?_⟩, by omega⟩, ?_⟩⟩⟩
 ·rw [if_pos a, if_neg (by simp [b])]
 ·rw [aQ (by omega) (by omega)]
  rfl
def sm5 : T Smf := (T.set sm4 47 (some (gFd rB (.one (.int .i64)) AQ rC)))
theorem rD : Tab fK sm5 := (Tab.set LX (by kernel_rfl) (aW LX bT FK rfl))
def cC (a b c : Int) : Int := if a = 0 then (if b = 0 then c else b) else a
def sW (st pl p s : Int) : Int := Int.tmod (aV (s + aV (p * aV (st.tdiv pl)))) st
def sX (ho ge h s : Int) : Int := Int.tmod (aV (h + aV (ge * s))) ho
def cO (st pl ho ge p h n : Int) : Int := cC (cV st pl ho ge) (bW pl ho p h) (bU n)
theorem iX {st pl ho ge : Int} (h : cV st pl ho ge = 0) : pR st pl ho ge = true := by
 unfold cV at h
 split at h
 ·rename_i a
  split at h
  ·rename_i b
   simp only [pR, Bool.and_eq_true, decide_eq_true_eq]
   exact ⟨⟨⟨a.1, a.2.1⟩, a.2.2⟩, b⟩
  ·omega
 ·omega
theorem AS {st pl ho ge p h : Int} (hr : pR st pl ho ge = true) (hp : bW pl ho p h = 0) : vL pl ho p h = true := by
 simp only [pR, Bool.and_eq_true, decide_eq_true_eq] at hr
 unfold bW at hp
 rw [aQ (by omega) (by omega), aQ (by omega) (by omega)] at hp
 split at hp
 ·simp only [vL, Bool.and_eq_true, decide_eq_true_eq]
  omega
 ·omega
theorem lX {st pl ho ge : Int} (h : cV st pl ho ge = 0) : eJ [.int .i64 st, .int .i64 pl, .int .i64 ho, .int .i64 ge] = true := by
 obtain ⟨S, P, H, G, ⟨rfl, rfl, rfl, rfl⟩, c1, c2, c3, c4, c5, c6, c7, c8⟩ := j6 (iX h)
 exact vN P G c1 c5 c6
theorem AU {ho : Int} {f : Nat → Nat → FD} : ∀ {n x : Nat}, lW ho f n x = 0 → ∀ i, x ≤ i → i < x + n → ((f i 0).ln : Int) = ho ∧ eO (fun k => aX 100 ((f i 0).fn k 0).i) (f i 0).ln 0 = false
 | 0, x, _, i, h1, h2 => by omega
 | n + 1, x, h, i, h1, h2 => by
  unfold lW at h
  split at h
  ·rename_i a
   split at h
   ·omega
   ·rename_i b
    by_cases e : i = x
    ·subst e; exact ⟨a, by simpa using b⟩
    ·exact AU h i (by omega) (by omega)
  ·omega
theorem pA {p : Nat → Bool} : ∀ {m : Nat}, (∀ i, i < m → p i = true) → aJ p m = true
 | 0, _ => rfl
 | m + 1, h => by
  show (p m && aJ p m) = true
  rw [pA (fun i hi => h i (by omega)), h m (by omega)]
  rfl
theorem RR {st pl ho ge : Int} (h : cV st pl ho ge = 0) (p hh n : Int) : atC [.int .i64 st, .int .i64 pl, .int .i64 ho, .int .i64 ge, .int .i64 p, .int .i64 hh, .int .i64 n] = true := by
 obtain ⟨S, P, H, G, ⟨rfl, rfl, rfl, rfl⟩, c1, c2, c3, c4, c5, c6, c7, c8⟩ := j6 (iX h)
 simp only [atC, Bool.and_eq_true, Bool.not_eq_true', decide_eq_false_iff_not]
 omega
theorem oO {st pl ho ge : Int} {n : Nat} {f : Nat → Nat → FD} (h : b7 st pl ho ge n f = 0) : cV st pl ho ge = 0 ∧ (n : Int) = st ∧ vM st ho n f = true ∧ ∀ i, i < n → ∀ k, k < (f i 0).ln → 0 ≤ ((f i 0).fn k 0).i ∧ ((f i 0).fn k 0).i ≤ 100 := by
 unfold b7 at h
 split at h
 ·rename_i a
  split at h
  ·rename_i b
   refine ⟨a, b, ?_, fun i hi k hk => ?_⟩
   ·simp only [vM, Bool.and_eq_true]
    refine ⟨Nat.ble_eq_true_of_le (by omega), pA fun i hi => Nat.ble_eq_true_of_le ?_⟩
    have := (AU h i (by omega) (by omega)).1
    omega
   ·have := mO (AU h i (by omega) (by omega)).2 k (by omega) (by omega)
    simp only [aX, Bool.not_eq_false', Bool.and_eq_true, decide_eq_true_eq] at this
    exact this
  ·omega
 ·rename_i a
  exact absurd h a
def AV : List PT := [.agg [.int .i64, .int .i64, .int .i64, .int .i64], .agg [.int .i64, .int .i64], .one (.int .i64)]
def I3 : List FD → Bool
 | [.int _ _, .int _ _, .int _ _, .int _ _, .int _ _, .int _ _, .int _ _] => true
 | _ => false
def AW : List FD → List FD
 | [.int _ st, .int _ pl, .int _ ho, .int _ ge, .int _ p, .int _ h, .int _ n] => [.int .i64 (if cO st pl ho ge p h n = 0 then sW st pl p n else 0), .int .i64 (if cO st pl ho ge p h n = 0 then sX ho ge h n else 0), .int .i64 (cO st pl ho ge p h n)]
 | _ => []
def I4 (_st : Int) (_pl : Int) (_ho : Int) (_ge : Int) (_p : Int) (_h : Int) (_n : Int) : Nat → b9 := aZ (fun _ => [])
theorem LY : dA (mkR sm5 gs2) Try.prog η0 49 (FI.of Try.f49 true) AV (.tup [.agg [.int .i64, .int .i64], .one (.int .i64)]) I3 AW := by
 refine aM rD bT Try.fok49 (fun fds => match fds with | [.int _ st, .int _ pl, .int _ ho, .int _ ge, .int _ p, .int _ h, .int _ n] => I4 st pl ho ge p h n | _ => aZ fun _ => []) ?_
 intro fds hf hc
 obtain ⟨st, ds0, rfl, hf1⟩ := hf.int
 obtain ⟨pl, ds1, rfl, hf2⟩ := hf1.int
 obtain ⟨ho, ds2, rfl, hf3⟩ := hf2.int
 obtain ⟨ge, ds3, rfl, hf4⟩ := hf3.int
 obtain ⟨p, ds4, rfl, hf5⟩ := hf4.int
 obtain ⟨h, ds5, rfl, hf6⟩ := hf5.int
 obtain ⟨n, ds6, rfl, hf7⟩ := hf6.int
 obtain rfl := hf7.nil
 have hc : (true) = true := hc
 have hvc : (vcF sm5 gs2 (FI.of Try.f49 true) AV (.tup [.agg [.int .i64, .int .i64], .one (.int .i64)]) (I4 st pl ho ge p h n) noR [.int .i64 st, .int .i64 pl, .int .i64 ho, .int .i64 ge, .int .i64 p, .int .i64 h, .int .i64 n] (AW [.int .i64 st, .int .i64 pl, .int .i64 ho, .int .i64 ge, .int .i64 p, .int .i64 h, .int .i64 n])) =
  ((true = true) ∧ (((true = true) → (((true = true) → (((true = true) → ((((decide (cV st pl ho ge = (0 : Int))) = (true)) → ((((decide (bW pl ho p h = (0 : Int))) = (true)) → ((((decide (bU n = (0 : Int))) = (true)) → ((((atC ([FD.int IntKind.i64 st, FD.int IntKind.i64 pl, FD.int IntKind.i64 ho, FD.int IntKind.i64 ge, FD.int IntKind.i64 p, FD.int IntKind.i64 h] ++ [FD.int IntKind.i64 n])) = (true)) → (((((IntKind.i64) = (IntKind.i64)) ∧ ((if cO st pl ho ge p h n = (0 : Int) then sW st pl p n else (0 : Int)) = (Int.tmod (aV (n + aV (p * aV (Int.tdiv st pl)))) st))) ∧ ((((IntKind.i64) = (IntKind.i64)) ∧ ((if cO st pl ho ge p h n = (0 : Int) then sX ho ge h n else (0 : Int)) = (Int.tmod (aV (h + aV (ge * n))) ho))) ∧ True)) ∧ ((((IntKind.i64) = (IntKind.i64)) ∧ ((cO st pl ho ge p h n) = ((0 : Int)))) ∧ True))) ∧ (((atC ([FD.int IntKind.i64 st, FD.int IntKind.i64 pl, FD.int IntKind.i64 ho, FD.int IntKind.i64 ge, FD.int IntKind.i64 p, FD.int IntKind.i64 h] ++ [FD.int IntKind.i64 n])) = (false)) → False))) ∧ (((decide (bU n = (0 : Int))) = (false)) → ((((decide (bU n = (0 : Int))) = (false)) → (((((IntKind.i64) = (IntKind.i64)) ∧ ((if cO st pl ho ge p h n = (0 : Int) then sW st pl p n else (0 : Int)) = ((0 : Int)))) ∧ ((((IntKind.i64) = (IntKind.i64)) ∧ ((if cO st pl ho ge p h n = (0 : Int) then sX ho ge h n else (0 : Int)) = ((0 : Int)))) ∧ True)) ∧ ((((IntKind.i64) = (IntKind.i64)) ∧ ((cO st pl ho ge p h n) = (bU n))) ∧ True))) ∧ (((decide (bU n = (0 : Int))) = (true)) → ((((atC ([FD.int IntKind.i64 st, FD.int IntKind.i64 pl, FD.int IntKind.i64 ho, FD.int IntKind.i64 ge, FD.int IntKind.i64 p, FD.int IntKind.i64 h] ++ [FD.int IntKind.i64 n])) = (true)) → (((((IntKind.i64) = (IntKind.i64)) ∧ ((if cO st pl ho ge p h n = (0 : Int) then sW st pl p n else (0 : Int)) = (Int.tmod (aV (n + aV (p * aV (Int.tdiv st pl)))) st))) ∧ ((((IntKind.i64) = (IntKind.i64)) ∧ ((if cO st pl ho ge p h n = (0 : Int) then sX ho ge h n else (0 : Int)) = (Int.tmod (aV (h + aV (ge * n))) ho))) ∧ True)) ∧ ((((IntKind.i64) = (IntKind.i64)) ∧ ((cO st pl ho ge p h n) = ((0 : Int)))) ∧ True))) ∧ (((atC ([FD.int IntKind.i64 st, FD.int IntKind.i64 pl, FD.int IntKind.i64 ho, FD.int IntKind.i64 ge, FD.int IntKind.i64 p, FD.int IntKind.i64 h] ++ [FD.int IntKind.i64 n])) = (false)) → False))))))) ∧ (((decide (bW pl ho p h = (0 : Int))) = (false)) → ((((decide (bW pl ho p h = (0 : Int))) = (false)) → (((((IntKind.i64) = (IntKind.i64)) ∧ ((if cO st pl ho ge p h n = (0 : Int) then sW st pl p n else (0 : Int)) = ((0 : Int)))) ∧ ((((IntKind.i64) = (IntKind.i64)) ∧ ((if cO st pl ho ge p h n = (0 : Int) then sX ho ge h n else (0 : Int)) = ((0 : Int)))) ∧ True)) ∧ ((((IntKind.i64) = (IntKind.i64)) ∧ ((cO st pl ho ge p h n) = (bW pl ho p h))) ∧ True))) ∧ (((decide (bW pl ho p h = (0 : Int))) = (true)) → ((((atC ([FD.int IntKind.i64 st, FD.int IntKind.i64 pl, FD.int IntKind.i64 ho, FD.int IntKind.i64 ge, FD.int IntKind.i64 p, FD.int IntKind.i64 h] ++ [FD.int IntKind.i64 n])) = (true)) → (((((IntKind.i64) = (IntKind.i64)) ∧ ((if cO st pl ho ge p h n = (0 : Int) then sW st pl p n else (0 : Int)) = (Int.tmod (aV (n + aV (p * aV (Int.tdiv st pl)))) st))) ∧ ((((IntKind.i64) = (IntKind.i64)) ∧ ((if cO st pl ho ge p h n = (0 : Int) then sX ho ge h n else (0 : Int)) = (Int.tmod (aV (h + aV (ge * n))) ho))) ∧ True)) ∧ ((((IntKind.i64) = (IntKind.i64)) ∧ ((cO st pl ho ge p h n) = ((0 : Int)))) ∧ True))) ∧ (((atC ([FD.int IntKind.i64 st, FD.int IntKind.i64 pl, FD.int IntKind.i64 ho, FD.int IntKind.i64 ge, FD.int IntKind.i64 p, FD.int IntKind.i64 h] ++ [FD.int IntKind.i64 n])) = (false)) → False))))))) ∧ (((decide (cV st pl ho ge = (0 : Int))) = (false)) → ((((decide (cV st pl ho ge = (0 : Int))) = (false)) → (((((IntKind.i64) = (IntKind.i64)) ∧ ((if cO st pl ho ge p h n = (0 : Int) then sW st pl p n else (0 : Int)) = ((0 : Int)))) ∧ ((((IntKind.i64) = (IntKind.i64)) ∧ ((if cO st pl ho ge p h n = (0 : Int) then sX ho ge h n else (0 : Int)) = ((0 : Int)))) ∧ True)) ∧ ((((IntKind.i64) = (IntKind.i64)) ∧ ((cO st pl ho ge p h n) = (cV st pl ho ge))) ∧ True))) ∧ (((decide (cV st pl ho ge = (0 : Int))) = (true)) → ((((atC ([FD.int IntKind.i64 st, FD.int IntKind.i64 pl, FD.int IntKind.i64 ho, FD.int IntKind.i64 ge, FD.int IntKind.i64 p, FD.int IntKind.i64 h] ++ [FD.int IntKind.i64 n])) = (true)) → (((((IntKind.i64) = (IntKind.i64)) ∧ ((if cO st pl ho ge p h n = (0 : Int) then sW st pl p n else (0 : Int)) = (Int.tmod (aV (n + aV (p * aV (Int.tdiv st pl)))) st))) ∧ ((((IntKind.i64) = (IntKind.i64)) ∧ ((if cO st pl ho ge p h n = (0 : Int) then sX ho ge h n else (0 : Int)) = (Int.tmod (aV (h + aV (ge * n))) ho))) ∧ True)) ∧ ((((IntKind.i64) = (IntKind.i64)) ∧ ((cO st pl ho ge p h n) = ((0 : Int)))) ∧ True))) ∧ (((atC ([FD.int IntKind.i64 st, FD.int IntKind.i64 pl, FD.int IntKind.i64 ho, FD.int IntKind.i64 ge, FD.int IntKind.i64 p, FD.int IntKind.i64 h] ++ [FD.int IntKind.i64 n])) = (false)) → False))))))) ∧ ((true = false) → False))) ∧ ((true = false) → False))) ∧ ((true = false) → False))) := by kernel_rfl
 refine hvc.mpr ?_
 clear hvc
 by_cases h1 : cV st pl ho ge = 0
 ·have := RR h1 p h n
  by_cases h2 : bW pl ho p h = 0 <;> by_cases h3 : bU n = 0 <;> simp [h1, h2, h3, cO, cC, sW, sX, this]
 ·simp [h1, cO, cC]
def FL : List PT := [.agg [.int .i64, .int .i64, .int .i64, .int .i64]]
def NL : List FD → Bool
 | [.int _ _, .int _ _, .int _ _, .int _ _] => true
 | _ => false
def FM : List FD → List FD
 | [.int _ st, .int _ pl, .int _ ho, .int _ ge] => [.int .i64 (if cV st pl ho ge = 0 then aC st ho ge else 0), .int .i64 (cV st pl ho ge)]
 | _ => []
def NM (_st : Int) (_pl : Int) (_ho : Int) (_ge : Int) : Nat → b9 := aZ (fun _ => [])
theorem O5 : dA (mkR sm5 gs2) Try.prog η0 37 (FI.of Try.f37 true) FL (.tup [.one (.int .i64), .one (.int .i64)]) NL FM := by
 refine aM rD bT Try.fok37 (fun fds => match fds with | [.int _ st, .int _ pl, .int _ ho, .int _ ge] => NM st pl ho ge | _ => aZ fun _ => []) ?_
 intro fds hf hc
 obtain ⟨st, ds0, rfl, hf1⟩ := hf.int
 obtain ⟨pl, ds1, rfl, hf2⟩ := hf1.int
 obtain ⟨ho, ds2, rfl, hf3⟩ := hf2.int
 obtain ⟨ge, ds3, rfl, hf4⟩ := hf3.int
 obtain rfl := hf4.nil
 have hc : (true) = true := hc
 have hvc : (vcF sm5 gs2 (FI.of Try.f37 true) FL (.tup [.one (.int .i64), .one (.int .i64)]) (NM st pl ho ge) noR [.int .i64 st, .int .i64 pl, .int .i64 ho, .int .i64 ge] (FM [.int .i64 st, .int .i64 pl, .int .i64 ho, .int .i64 ge])) =
  ((true = true) ∧ (((true = true) → ((((decide (cV st pl ho ge = (0 : Int))) = (false)) → ((((IntKind.i64) = (IntKind.i64)) ∧ ((if cV st pl ho ge = (0 : Int) then aC st ho ge else (0 : Int)) = ((0 : Int)))) ∧ ((((IntKind.i64) = (IntKind.i64)) ∧ ((cV st pl ho ge) = (cV st pl ho ge))) ∧ True))) ∧ (((decide (cV st pl ho ge = (0 : Int))) = (true)) → ((((eJ ([FD.int IntKind.i64 st, FD.int IntKind.i64 pl, FD.int IntKind.i64 ho, FD.int IntKind.i64 ge] ++ [])) = (true)) → ((((IntKind.i64) = (IntKind.i64)) ∧ ((if cV st pl ho ge = (0 : Int) then aC st ho ge else (0 : Int)) = (aC st ho ge))) ∧ ((((IntKind.i64) = (IntKind.i64)) ∧ ((cV st pl ho ge) = ((0 : Int)))) ∧ True))) ∧ (((eJ ([FD.int IntKind.i64 st, FD.int IntKind.i64 pl, FD.int IntKind.i64 ho, FD.int IntKind.i64 ge] ++ [])) = (false)) → False))))) ∧ ((true = false) → False))) := by kernel_rfl
 refine hvc.mpr ?_
 clear hvc
 simp
 refine ⟨fun h g => absurd g h, fun h => ⟨fun _ => ⟨fun g => absurd h g, h⟩, lX h⟩⟩
def rE : List PT := [.agg [.int .i64, .int .i64, .int .i64, .int .i64], .one (.list [.list [.int .i64]]), .agg [.int .i64, .int .i64, .int .i64]]
def AX : List FD → Bool
 | [.int _ _, .int _ _, .int _ _, .int _ _, .list _ _ _, .int _ _, .int _ _, .int _ _] => true
 | _ => false
def rF : List FD → List FD
 | [.int _ st, .int _ pl, .int _ ho, .int _ ge, .list _ nfl ffl, .int _ p, .int _ h, .int _ n] => [.int .i64 (if cC (b7 st pl ho ge nfl ffl) (bW pl ho p h) (bU n) = 0 then aE st pl ho ge p h ffl n else 0), .int .i64 (cC (b7 st pl ho ge nfl ffl) (bW pl ho p h) (bU n))]
 | _ => []
def AY (_st : Int) (_pl : Int) (_ho : Int) (_ge : Int) (_nfl : Nat) (_ffl : Nat → Nat → FD) (_p : Int) (_h : Int) (_n : Int) : Nat → b9 := aZ (fun _ => [])
theorem FN : dA (mkR sm5 gs2) Try.prog η0 45 (FI.of Try.f45 true) rE (.tup [.one (.int .i64), .one (.int .i64)]) AX rF := by
 refine aM rD bT Try.fok45 (fun fds => match fds with | [.int _ st, .int _ pl, .int _ ho, .int _ ge, .list _ nfl ffl, .int _ p, .int _ h, .int _ n] => AY st pl ho ge nfl ffl p h n | _ => aZ fun _ => []) ?_
 intro fds hf hc
 obtain ⟨st, ds0, rfl, hf1⟩ := hf.int
 obtain ⟨pl, ds1, rfl, hf2⟩ := hf1.int
 obtain ⟨ho, ds2, rfl, hf3⟩ := hf2.int
 obtain ⟨ge, ds3, rfl, hf4⟩ := hf3.int
 obtain ⟨nfl, ffl, ds4, rfl, gfl, hf5⟩ := hf4.list
 obtain ⟨p, ds5, rfl, hf6⟩ := hf5.int
 obtain ⟨h, ds6, rfl, hf7⟩ := hf6.int
 obtain ⟨n, ds7, rfl, hf8⟩ := hf7.int
 obtain rfl := hf8.nil
 have hc : (true) = true := hc
 have hvc : (vcF sm5 gs2 (FI.of Try.f45 true) rE (.tup [.one (.int .i64), .one (.int .i64)]) (AY st pl ho ge nfl ffl p h n) noR [.int .i64 st, .int .i64 pl, .int .i64 ho, .int .i64 ge, .list [.list [.int .i64]] nfl ffl, .int .i64 p, .int .i64 h, .int .i64 n] (rF [.int .i64 st, .int .i64 pl, .int .i64 ho, .int .i64 ge, .list [.list [.int .i64]] nfl ffl, .int .i64 p, .int .i64 h, .int .i64 n])) =
  ((true = true) ∧ (((true = true) → ((((decide (b7 st pl ho ge nfl ffl = (0 : Int))) = (false)) → ((((IntKind.i64) = (IntKind.i64)) ∧ ((if cC (b7 st pl ho ge nfl ffl) (bW pl ho p h) (bU n) = (0 : Int) then aE st pl ho ge p h ffl n else (0 : Int)) = ((0 : Int)))) ∧ ((((IntKind.i64) = (IntKind.i64)) ∧ ((cC (b7 st pl ho ge nfl ffl) (bW pl ho p h) (bU n)) = (b7 st pl ho ge nfl ffl))) ∧ True))) ∧ (((decide (b7 st pl ho ge nfl ffl = (0 : Int))) = (true)) → (((true = true) → (((true = true) → ((((decide (bW pl ho p h = (0 : Int))) = (true)) → ((((decide (bU n = (0 : Int))) = (true)) → ((((gM ([FD.int IntKind.i64 st, FD.int IntKind.i64 pl, FD.int IntKind.i64 ho, FD.int IntKind.i64 ge, FD.int IntKind.i64 p, FD.int IntKind.i64 h] ++ [FD.list [Sh.list [Sh.int IntKind.i64]] nfl ffl, FD.int IntKind.i64 n])) = (true)) → ((((IntKind.i64) = (IntKind.i64)) ∧ ((if cC (b7 st pl ho ge nfl ffl) (bW pl ho p h) (bU n) = (0 : Int) then aE st pl ho ge p h ffl n else (0 : Int)) = (aE st pl ho ge p h ffl n))) ∧ ((((IntKind.i64) = (IntKind.i64)) ∧ ((cC (b7 st pl ho ge nfl ffl) (bW pl ho p h) (bU n)) = ((0 : Int)))) ∧ True))) ∧ (((gM ([FD.int IntKind.i64 st, FD.int IntKind.i64 pl, FD.int IntKind.i64 ho, FD.int IntKind.i64 ge, FD.int IntKind.i64 p, FD.int IntKind.i64 h] ++ [FD.list [Sh.list [Sh.int IntKind.i64]] nfl ffl, FD.int IntKind.i64 n])) = (false)) → False))) ∧ (((decide (bU n = (0 : Int))) = (false)) → ((((decide (bU n = (0 : Int))) = (false)) → ((((IntKind.i64) = (IntKind.i64)) ∧ ((if cC (b7 st pl ho ge nfl ffl) (bW pl ho p h) (bU n) = (0 : Int) then aE st pl ho ge p h ffl n else (0 : Int)) = ((0 : Int)))) ∧ ((((IntKind.i64) = (IntKind.i64)) ∧ ((cC (b7 st pl ho ge nfl ffl) (bW pl ho p h) (bU n)) = (bU n))) ∧ True))) ∧ (((decide (bU n = (0 : Int))) = (true)) → ((((gM ([FD.int IntKind.i64 st, FD.int IntKind.i64 pl, FD.int IntKind.i64 ho, FD.int IntKind.i64 ge, FD.int IntKind.i64 p, FD.int IntKind.i64 h] ++ [FD.list [Sh.list [Sh.int IntKind.i64]] nfl ffl, FD.int IntKind.i64 n])) = (true)) → ((((IntKind.i64) = (IntKind.i64)) ∧ ((if cC (b7 st pl ho ge nfl ffl) (bW pl ho p h) (bU n) = (0 : Int) then aE st pl ho ge p h ffl n else (0 : Int)) = (aE st pl ho ge p h ffl n))) ∧ ((((IntKind.i64) = (IntKind.i64)) ∧ ((cC (b7 st pl ho ge nfl ffl) (bW pl ho p h) (bU n)) = ((0 : Int)))) ∧ True))) ∧ (((gM ([FD.int IntKind.i64 st, FD.int IntKind.i64 pl, FD.int IntKind.i64 ho, FD.int IntKind.i64 ge, FD.int IntKind.i64 p, FD.int IntKind.i64 h] ++ [FD.list [Sh.list [Sh.int IntKind.i64]] nfl ffl, FD.int IntKind.i64 n])) = (false)) → False))))))) ∧ (((decide (bW pl ho p h = (0 : Int))) = (false)) → ((((decide (bW pl ho p h = (0 : Int))) = (false)) → ((((IntKind.i64) = (IntKind.i64)) ∧ ((if cC (b7 st pl ho ge nfl ffl) (bW pl ho p h) (bU n) = (0 : Int) then aE st pl ho ge p h ffl n else (0 : Int)) = ((0 : Int)))) ∧ ((((IntKind.i64) = (IntKind.i64)) ∧ ((cC (b7 st pl ho ge nfl ffl) (bW pl ho p h) (bU n)) = (bW pl ho p h))) ∧ True))) ∧ (((decide (bW pl ho p h = (0 : Int))) = (true)) → ((((gM ([FD.int IntKind.i64 st, FD.int IntKind.i64 pl, FD.int IntKind.i64 ho, FD.int IntKind.i64 ge, FD.int IntKind.i64 p, FD.int IntKind.i64 h] ++ [FD.list [Sh.list [Sh.int IntKind.i64]] nfl ffl, FD.int IntKind.i64 n])) = (true)) → ((((IntKind.i64) = (IntKind.i64)) ∧ ((if cC (b7 st pl ho ge nfl ffl) (bW pl ho p h) (bU n) = (0 : Int) then aE st pl ho ge p h ffl n else (0 : Int)) = (aE st pl ho ge p h ffl n))) ∧ ((((IntKind.i64) = (IntKind.i64)) ∧ ((cC (b7 st pl ho ge nfl ffl) (bW pl ho p h) (bU n)) = ((0 : Int)))) ∧ True))) ∧ (((gM ([FD.int IntKind.i64 st, FD.int IntKind.i64 pl, FD.int IntKind.i64 ho, FD.int IntKind.i64 ge, FD.int IntKind.i64 p, FD.int IntKind.i64 h] ++ [FD.list [Sh.list [Sh.int IntKind.i64]] nfl ffl, FD.int IntKind.i64 n])) = (false)) → False))))))) ∧ ((true = false) → False))) ∧ ((true = false) → False))))) ∧ ((true = false) → False))) := by kernel_rfl
 refine hvc.mpr ?_
 clear hvc
 by_cases h1 : b7 st pl ho ge nfl ffl = 0
 ·obtain ⟨e1, e2, e3, e4⟩ := oO h1
  have e5 := iX e1
  have hth : bW pl ho p h = 0 → bU n = 0 → gM [.int .i64 st, .int .i64 pl, .int .i64 ho, .int .i64 ge, .int .i64 p, .int .i64 h, .list [.list [.int .i64]] nfl ffl, .int .i64 n] = true := fun a b => by
   have e6 := AS e5 a
   simp only [gM, e5, e6, e3, Bool.true_and]
   unfold bU at b
   simp only [Bool.and_eq_true, decide_eq_true_eq]
   split at b
   ·omega
   ·omega
  by_cases h2 : bW pl ho p h = 0 <;> by_cases h3 : bU n = 0 <;> simp [h1, h2, h3, cC] <;> simp [hth h2 h3]
 ·simp [h1, cC]
end
end Go.Ex

