/-
  Contracts: checks of a flow; thicknesses.
-/
import Derived.Test.YtdpabnfcfakjeaaLwFef

namespace Go.Ex
open Go Go.Proofs Go.RowKit
noncomputable section

/-- The error of the rows. -/
def rowsE (ho : Int) (f : Nat → Nat → FD) : Nat → Nat → Int
  | 0, _ => 0
  | n + 1, x => if ((f x 0).ln : Int) = ho then (if anyN (fun i => outB 100 ((f x 0).fn i 0).i) (f x 0).ln 0 = true then 2 else rowsE ho f n (x + 1)) else 12
def flowE (st pl ho ge : Int) (n : Nat) (f : Nat → Nat → FD) : Int :=
  if rackE st pl ho ge = 0 then (if (n : Int) = st then rowsE ho f n 0 else 12) else rackE st pl ho ge
def checkFlowS : List PT := [.agg [.int .i64, .int .i64, .int .i64, .int .i64], .one (.list [.list [.int .i64]])]
def checkFlowC : List FD → Bool
  | [.int _ _, .int _ _, .int _ _, .int _ _, .list _ _ _] => true
  | _ => false
def checkFlowR : List FD → List FD
  | [.int _ st, .int _ pl, .int _ ho, .int _ ge, .list _ nfl ffl] => [.int .i64 (flowE st pl ho ge nfl ffl)]
  | _ => []
def checkFlowI (st : Int) (pl : Int) (ho : Int) (ge : Int) (nfl : Nat) (ffl : Nat → Nat → FD) : Nat → AFam := fun i => match i with | 7 => ⟨Nat, fun _ => [{ι := Nat, G := fun x => x ≤ nfl ∧ rowsE ho ffl (nfl - x) x = rowsE ho ffl nfl 0, μ := fun x => nfl - x, tl := fun x => [(0, .agg [.int IntKind.i64 (.tm st), .int IntKind.i64 (.tm pl), .int IntKind.i64 (.tm ho), .int IntKind.i64 (.tm ge)]), (1, .one (.fz (.root 0 4) (FD.list [Sh.list [Sh.int IntKind.i64]] nfl ffl))), (2, .one (.ptr (some (1, 0)))), (8, .agg [.int IntKind.i64 (.tm st), .int IntKind.i64 (.tm pl), .int IntKind.i64 (.tm ho), .int IntKind.i64 (.tm ge)]), (13, .one (.fz (.root 0 4) (FD.list [Sh.list [Sh.int IntKind.i64]] nfl ffl))), (14, .one (.int IntKind.i64 (.tm (Int.ofNat nfl)))), (15, .one (.ptr (some (1, 0)))), (16, .one (.int IntKind.i64 (.tm st))), (18, .one (.fz (.root 0 4) (FD.list [Sh.list [Sh.int IntKind.i64]] nfl ffl))), (19, .one (.int IntKind.i64 (.tm (Int.ofNat nfl)))), (20, .one (.int IntKind.i64 (.tm (Int.ofNat x))))], bl := fun x => [(1, .cells 47 4 [.int IntKind.i64 (.tm st), .int IntKind.i64 (.tm pl), .int IntKind.i64 (.tm ho), .int IntKind.i64 (.tm ge)])], nx := (1 : Nat) + (1 : Nat)}]⟩ | _ => ⟨Nat, fun _ => []⟩
theorem checkFlow_ok : FnOk (mkR sm4 gs2) Try.prog η0 47 (FI.of Try.f47 true) checkFlowS (.one (.int .i64)) checkFlowC checkFlowR := by
  refine fnOk_of0 sm4_ok gs2_ok Try.fok47 (fun fds => match fds with | [.int _ st, .int _ pl, .int _ ho, .int _ ge, .list _ nfl ffl] => checkFlowI st pl ho ge nfl ffl | _ => alts fun _ => []) ?_
  intro fds hf hc
  obtain ⟨st, ds0, rfl, hf1⟩ := hf.int
  obtain ⟨pl, ds1, rfl, hf2⟩ := hf1.int
  obtain ⟨ho, ds2, rfl, hf3⟩ := hf2.int
  obtain ⟨ge, ds3, rfl, hf4⟩ := hf3.int
  obtain ⟨nfl, ffl, ds4, rfl, gfl, hf5⟩ := hf4.list
  obtain rfl := hf5.nil
  have hc : (true) = true := hc
  have hvc : (vcF sm4 gs2 (FI.of Try.f47 true) checkFlowS (.one (.int .i64)) (checkFlowI st pl ho ge nfl ffl) noR [.int .i64 st, .int .i64 pl, .int .i64 ho, .int .i64 ge, .list [.list [.int .i64]] nfl ffl] (checkFlowR [.int .i64 st, .int .i64 pl, .int .i64 ho, .int .i64 ge, .list [.list [.int .i64]] nfl ffl])) =
    ((true = true) ∧ (((true = true) → ((((decide (rackE st pl ho ge = (0 : Int))) = (false)) → (((IntKind.i64) = (IntKind.i64)) ∧ ((flowE st pl ho ge nfl ffl) = (rackE st pl ho ge)))) ∧ (((decide (rackE st pl ho ge = (0 : Int))) = (true)) → ((((decide (Int.ofNat nfl = st)) = (false)) → (((IntKind.i64) = (IntKind.i64)) ∧ ((flowE st pl ho ge nfl ffl) = ((12 : Int))))) ∧ (((decide (Int.ofNat nfl = st)) = (true)) → (∃ y0 : Nat, ((∃ y1 : Nat, (((y1 ≤ nfl ∧ ((rowsE ho ffl (nfl - y1) y1) = (rowsE ho ffl nfl (0 : Nat)))) ∧ True) ∧ (((true = true) ∧ (((((IntKind.i64) = (IntKind.i64)) ∧ ((st) = (st))) ∧ ((((IntKind.i64) = (IntKind.i64)) ∧ ((pl) = (pl))) ∧ ((((IntKind.i64) = (IntKind.i64)) ∧ ((ho) = (ho))) ∧ ((((IntKind.i64) = (IntKind.i64)) ∧ ((ge) = (ge))) ∧ True)))) ∧ ((((Ref.root (0) (4)) = (Ref.root (0) (4))) ∧ (((FD.list [Sh.list [Sh.int IntKind.i64]] nfl ffl) = (FD.list [Sh.list [Sh.int IntKind.i64]] nfl ffl)) ∧ (true = true))) ∧ ((((1, 1) ∈ ([(1, 1)] : List (Nat × Nat))) ∧ ((Prod.snd ((1 : Nat), (0 : Nat))) = (Prod.snd ((1 : Nat), (0 : Nat))))) ∧ (((((IntKind.i64) = (IntKind.i64)) ∧ ((st) = (st))) ∧ ((((IntKind.i64) = (IntKind.i64)) ∧ ((pl) = (pl))) ∧ ((((IntKind.i64) = (IntKind.i64)) ∧ ((ho) = (ho))) ∧ ((((IntKind.i64) = (IntKind.i64)) ∧ ((ge) = (ge))) ∧ True)))) ∧ ((((Ref.root (0) (4)) = (Ref.root (0) (4))) ∧ (((FD.list [Sh.list [Sh.int IntKind.i64]] nfl ffl) = (FD.list [Sh.list [Sh.int IntKind.i64]] nfl ffl)) ∧ (true = true))) ∧ ((((IntKind.i64) = (IntKind.i64)) ∧ ((Int.ofNat nfl) = (Int.ofNat nfl))) ∧ ((((1, 1) ∈ ([(1, 1)] : List (Nat × Nat))) ∧ ((Prod.snd ((1 : Nat), (0 : Nat))) = (Prod.snd ((1 : Nat), (0 : Nat) + Field.offset { name := "Stations", type := (3 : Nat), offset := (0 : Nat), embedded := false, tag := "", pkgPath := "", byteOffset := (0 : Nat) })))) ∧ ((((IntKind.i64) = (IntKind.i64)) ∧ ((st) = (st))) ∧ ((((Ref.root (0) (4)) = (Ref.root (0) (4))) ∧ (((FD.list [Sh.list [Sh.int IntKind.i64]] nfl ffl) = (FD.list [Sh.list [Sh.int IntKind.i64]] nfl ffl)) ∧ (true = true))) ∧ ((((IntKind.i64) = (IntKind.i64)) ∧ ((Int.ofNat nfl) = (Int.ofNat nfl))) ∧ ((((IntKind.i64) = (IntKind.i64)) ∧ ((Int.ofNat y1) = ((0 : Int)))) ∧ True)))))))))))) ∧ (((((47 : TypeId)) = ((47 : Nat))) ∧ ((((4 : Nat)) = (List.length [Sc.int IntKind.i64 (Ix.tm st), Sc.int IntKind.i64 (Ix.tm pl), Sc.int IntKind.i64 (Ix.tm ho), Sc.int IntKind.i64 (Ix.tm ge)])) ∧ ((((IntKind.i64) = (IntKind.i64)) ∧ ((st) = (st))) ∧ ((((IntKind.i64) = (IntKind.i64)) ∧ ((pl) = (pl))) ∧ ((((IntKind.i64) = (IntKind.i64)) ∧ ((ho) = (ho))) ∧ ((((IntKind.i64) = (IntKind.i64)) ∧ ((ge) = (ge))) ∧ True)))))) ∧ True)))) ∧ (∀ y1 : Nat, ((y1 ≤ nfl ∧ ((rowsE ho ffl (nfl - y1) y1) = (rowsE ho ffl nfl (0 : Nat)))) → ((((decide (Int.ofNat y1 < Int.ofNat nfl)) = (true)) → ((((decide ((0 : Int) ≤ Int.ofNat y1) && decide (Int.ofNat y1 < (↑nfl : Int))) = (true)) → ((((decide (Int.ofNat (FD.ln (ffl (Int.toNat (Int.ofNat y1)) (0 : Nat))) = ho)) = (false)) → (((IntKind.i64) = (IntKind.i64)) ∧ ((flowE st pl ho ge nfl ffl) = ((12 : Int))))) ∧ (((decide (Int.ofNat (FD.ln (ffl (Int.toNat (Int.ofNat y1)) (0 : Nat))) = ho)) = (true)) → (((true = true) → ((((anyN (fun (i : Nat) => outB (100 : Int) (FD.i (FD.fn (ffl (Int.toNat (Int.ofNat y1)) (0 : Nat)) i (0 : Nat)))) (FD.ln (ffl (Int.toNat (Int.ofNat y1)) (0 : Nat))) (0 : Nat)) = (true)) → (((IntKind.i64) = (IntKind.i64)) ∧ ((flowE st pl ho ge nfl ffl) = ((2 : Int))))) ∧ (((anyN (fun (i : Nat) => outB (100 : Int) (FD.i (FD.fn (ffl (Int.toNat (Int.ofNat y1)) (0 : Nat)) i (0 : Nat)))) (FD.ln (ffl (Int.toNat (Int.ofNat y1)) (0 : Nat))) (0 : Nat)) = (false)) → (∃ y2 : Nat, (((y2 ≤ nfl ∧ ((rowsE ho ffl (nfl - y2) y2) = (rowsE ho ffl nfl (0 : Nat)))) ∧ nfl - y2 < nfl - y1) ∧ (((true = true) ∧ (((((IntKind.i64) = (IntKind.i64)) ∧ ((st) = (st))) ∧ ((((IntKind.i64) = (IntKind.i64)) ∧ ((pl) = (pl))) ∧ ((((IntKind.i64) = (IntKind.i64)) ∧ ((ho) = (ho))) ∧ ((((IntKind.i64) = (IntKind.i64)) ∧ ((ge) = (ge))) ∧ True)))) ∧ ((((Ref.root (0) (4)) = (Ref.root (0) (4))) ∧ (((FD.list [Sh.list [Sh.int IntKind.i64]] nfl ffl) = (FD.list [Sh.list [Sh.int IntKind.i64]] nfl ffl)) ∧ (true = true))) ∧ ((((1, 1) ∈ ([(1, 1)] : List (Nat × Nat))) ∧ ((Prod.snd ((1 : Nat), (0 : Nat))) = (Prod.snd ((1 : Nat), (0 : Nat))))) ∧ (((((IntKind.i64) = (IntKind.i64)) ∧ ((st) = (st))) ∧ ((((IntKind.i64) = (IntKind.i64)) ∧ ((pl) = (pl))) ∧ ((((IntKind.i64) = (IntKind.i64)) ∧ ((ho) = (ho))) ∧ ((((IntKind.i64) = (IntKind.i64)) ∧ ((ge) = (ge))) ∧ True)))) ∧ ((((Ref.root (0) (4)) = (Ref.root (0) (4))) ∧ (((FD.list [Sh.list [Sh.int IntKind.i64]] nfl ffl) = (FD.list [Sh.list [Sh.int IntKind.i64]] nfl ffl)) ∧ (true = true))) ∧ ((((IntKind.i64) = (IntKind.i64)) ∧ ((Int.ofNat nfl) = (Int.ofNat nfl))) ∧ ((((1, 1) ∈ ([(1, 1)] : List (Nat × Nat))) ∧ ((Prod.snd ((1 : Nat), (0 : Nat))) = (Prod.snd ((1 : Nat), (0 : Nat))))) ∧ ((((IntKind.i64) = (IntKind.i64)) ∧ ((st) = (st))) ∧ ((((Ref.root (0) (4)) = (Ref.root (0) (4))) ∧ (((FD.list [Sh.list [Sh.int IntKind.i64]] nfl ffl) = (FD.list [Sh.list [Sh.int IntKind.i64]] nfl ffl)) ∧ (true = true))) ∧ ((((IntKind.i64) = (IntKind.i64)) ∧ ((Int.ofNat nfl) = (Int.ofNat nfl))) ∧ ((((IntKind.i64) = (IntKind.i64)) ∧ ((Int.ofNat y2) = (IntKind.wrap IntKind.i64 (Int.ofNat y1 + (1 : Int))))) ∧ True)))))))))))) ∧ (((((47 : TypeId)) = ((47 : TypeId))) ∧ ((((4 : Nat)) = ((4 : Nat))) ∧ ((((IntKind.i64) = (IntKind.i64)) ∧ ((st) = (st))) ∧ ((((IntKind.i64) = (IntKind.i64)) ∧ ((pl) = (pl))) ∧ ((((IntKind.i64) = (IntKind.i64)) ∧ ((ho) = (ho))) ∧ ((((IntKind.i64) = (IntKind.i64)) ∧ ((ge) = (ge))) ∧ True)))))) ∧ True))))))) ∧ ((true = false) → False))))) ∧ (((decide ((0 : Int) ≤ Int.ofNat y1) && decide (Int.ofNat y1 < (↑nfl : Int))) = (false)) → False))) ∧ (((decide (Int.ofNat y1 < Int.ofNat nfl)) = (false)) → (((IntKind.i64) = (IntKind.i64)) ∧ ((flowE st pl ho ge nfl ffl) = ((0 : Int))))))))))))))) ∧ ((true = false) → False))) := by kernel_rfl
  refine hvc.mpr ?_
  clear hvc
  have hl := gfl.len
  have hl' : maxLen = 9223372036854775807 := rfl
  simp
  unfold flowE
  refine ⟨fun h => by rw [if_neg h], fun h => ?_⟩
  rw [if_pos h]
  refine ⟨fun g => by rw [if_neg g], fun g => ?_⟩
  rw [if_pos g]
  intro x hx he
  rw [← he]
  refine ⟨fun h => ⟨fun _ => ?_, h⟩, fun h => by rw [show nfl - x = 0 by omega]; rfl⟩
  rw [show nfl - x = nfl - (x + 1) + 1 by omega, rowsE]
  refine ⟨fun a => by rw [if_neg a], fun a => ⟨fun b => by rw [if_pos a, if_pos b], fun b => ⟨x + 1, ⟨⟨by omega, ?_⟩, by omega⟩, ?_⟩⟩⟩
  · rw [if_pos a, if_neg (by simp [b])]
  · rw [wrap_id (by omega) (by omega)]
    rfl
def sm5 : T Smf := (T.set sm4 47 (some (gFd checkFlowS (.one (.int .i64)) checkFlowC checkFlowR)))
theorem sm5_ok : Tab SmOk sm5 := (Tab.set sm4_ok (by kernel_rfl) (smOk_of sm4_ok gs2_ok checkFlow_ok rfl))
def first3 (a b c : Int) : Int := if a = 0 then (if b = 0 then c else b) else a
def statI (st pl p s : Int) : Int := Int.tmod (wrapI (s + wrapI (p * wrapI (st.tdiv pl)))) st
def sideI (ho ge h s : Int) : Int := Int.tmod (wrapI (h + wrapI (ge * s))) ho
def placeE (st pl ho ge p h n : Int) : Int := first3 (rackE st pl ho ge) (partE pl ho p h) (stepsE n)
theorem rackE_ok {st pl ho ge : Int} (h : rackE st pl ho ge = 0) : rackB st pl ho ge = true := by
  unfold rackE at h
  split at h
  · rename_i a
    split at h
    · rename_i b
      simp only [rackB, Bool.and_eq_true, decide_eq_true_eq]
      exact ⟨⟨⟨a.1, a.2.1⟩, a.2.2⟩, b⟩
    · omega
  · omega
theorem partE_ok {st pl ho ge p h : Int} (hr : rackB st pl ho ge = true) (hp : partE pl ho p h = 0) : partB pl ho p h = true := by
  simp only [rackB, Bool.and_eq_true, decide_eq_true_eq] at hr
  unfold partE at hp
  rw [wrap_id (by omega) (by omega), wrap_id (by omega) (by omega)] at hp
  split at hp
  · simp only [partB, Bool.and_eq_true, decide_eq_true_eq]
    omega
  · omega
theorem rackE_per {st pl ho ge : Int} (h : rackE st pl ho ge = 0) : periodC [.int .i64 st, .int .i64 pl, .int .i64 ho, .int .i64 ge] = true := by
  obtain ⟨S, P, H, G, ⟨rfl, rfl, rfl, rfl⟩, c1, c2, c3, c4, c5, c6, c7, c8⟩ := rack_nat (rackE_ok h)
  exact periodC_nat P G c1 c5 c6
theorem rowsE_ok {ho : Int} {f : Nat → Nat → FD} : ∀ {n x : Nat}, rowsE ho f n x = 0 → ∀ i, x ≤ i → i < x + n → ((f i 0).ln : Int) = ho ∧ anyN (fun k => outB 100 ((f i 0).fn k 0).i) (f i 0).ln 0 = false
  | 0, x, _, i, h1, h2 => by omega
  | n + 1, x, h, i, h1, h2 => by
    unfold rowsE at h
    split at h
    · rename_i a
      split at h
      · omega
      · rename_i b
        by_cases e : i = x
        · subst e; exact ⟨a, by simpa using b⟩
        · exact rowsE_ok h i (by omega) (by omega)
    · omega
theorem natAll_of {p : Nat → Bool} : ∀ {m : Nat}, (∀ i, i < m → p i = true) → natAll p m = true
  | 0, _ => rfl
  | m + 1, h => by
    show (p m && natAll p m) = true
    rw [natAll_of (fun i hi => h i (by omega)), h m (by omega)]
    rfl
theorem rackE_at {st pl ho ge : Int} (h : rackE st pl ho ge = 0) (p hh n : Int) : atC [.int .i64 st, .int .i64 pl, .int .i64 ho, .int .i64 ge, .int .i64 p, .int .i64 hh, .int .i64 n] = true := by
  obtain ⟨S, P, H, G, ⟨rfl, rfl, rfl, rfl⟩, c1, c2, c3, c4, c5, c6, c7, c8⟩ := rack_nat (rackE_ok h)
  simp only [atC, Bool.and_eq_true, Bool.not_eq_true', decide_eq_false_iff_not]
  omega
theorem flowE_ok {st pl ho ge : Int} {n : Nat} {f : Nat → Nat → FD} (h : flowE st pl ho ge n f = 0) : rackE st pl ho ge = 0 ∧ (n : Int) = st ∧ rowsB st ho n f = true ∧ ∀ i, i < n → ∀ k, k < (f i 0).ln → 0 ≤ ((f i 0).fn k 0).i ∧ ((f i 0).fn k 0).i ≤ 100 := by
  unfold flowE at h
  split at h
  · rename_i a
    split at h
    · rename_i b
      refine ⟨a, b, ?_, fun i hi k hk => ?_⟩
      · simp only [rowsB, Bool.and_eq_true]
        refine ⟨Nat.ble_eq_true_of_le (by omega), natAll_of fun i hi => Nat.ble_eq_true_of_le ?_⟩
        have := (rowsE_ok h i (by omega) (by omega)).1
        omega
      · have := anyN_false (rowsE_ok h i (by omega) (by omega)).2 k (by omega) (by omega)
        simp only [outB, Bool.not_eq_false', Bool.and_eq_true, decide_eq_true_eq] at this
        exact this
    · omega
  · rename_i a
    exact absurd h a
def placeAtS : List PT := [.agg [.int .i64, .int .i64, .int .i64, .int .i64], .agg [.int .i64, .int .i64], .one (.int .i64)]
def placeAtC : List FD → Bool
  | [.int _ _, .int _ _, .int _ _, .int _ _, .int _ _, .int _ _, .int _ _] => true
  | _ => false
def placeAtR : List FD → List FD
  | [.int _ st, .int _ pl, .int _ ho, .int _ ge, .int _ p, .int _ h, .int _ n] => [.int .i64 (if placeE st pl ho ge p h n = 0 then statI st pl p n else 0), .int .i64 (if placeE st pl ho ge p h n = 0 then sideI ho ge h n else 0), .int .i64 (placeE st pl ho ge p h n)]
  | _ => []
def placeAtI (_st : Int) (_pl : Int) (_ho : Int) (_ge : Int) (_p : Int) (_h : Int) (_n : Int) : Nat → AFam := alts (fun _ => [])
theorem placeAt_ok : FnOk (mkR sm5 gs2) Try.prog η0 49 (FI.of Try.f49 true) placeAtS (.tup [.agg [.int .i64, .int .i64], .one (.int .i64)]) placeAtC placeAtR := by
  refine fnOk_of0 sm5_ok gs2_ok Try.fok49 (fun fds => match fds with | [.int _ st, .int _ pl, .int _ ho, .int _ ge, .int _ p, .int _ h, .int _ n] => placeAtI st pl ho ge p h n | _ => alts fun _ => []) ?_
  intro fds hf hc
  obtain ⟨st, ds0, rfl, hf1⟩ := hf.int
  obtain ⟨pl, ds1, rfl, hf2⟩ := hf1.int
  obtain ⟨ho, ds2, rfl, hf3⟩ := hf2.int
  obtain ⟨ge, ds3, rfl, hf4⟩ := hf3.int
  obtain ⟨p, ds4, rfl, hf5⟩ := hf4.int
  obtain ⟨h, ds5, rfl, hf6⟩ := hf5.int
  obtain ⟨n, ds6, rfl, hf7⟩ := hf6.int
  obtain rfl := hf7.nil
  have hc : (true) = true := hc
  have hvc : (vcF sm5 gs2 (FI.of Try.f49 true) placeAtS (.tup [.agg [.int .i64, .int .i64], .one (.int .i64)]) (placeAtI st pl ho ge p h n) noR [.int .i64 st, .int .i64 pl, .int .i64 ho, .int .i64 ge, .int .i64 p, .int .i64 h, .int .i64 n] (placeAtR [.int .i64 st, .int .i64 pl, .int .i64 ho, .int .i64 ge, .int .i64 p, .int .i64 h, .int .i64 n])) =
    ((true = true) ∧ (((true = true) → (((true = true) → (((true = true) → ((((decide (rackE st pl ho ge = (0 : Int))) = (true)) → ((((decide (partE pl ho p h = (0 : Int))) = (true)) → ((((decide (stepsE n = (0 : Int))) = (true)) → ((((atC ([FD.int IntKind.i64 st, FD.int IntKind.i64 pl, FD.int IntKind.i64 ho, FD.int IntKind.i64 ge, FD.int IntKind.i64 p, FD.int IntKind.i64 h] ++ [FD.int IntKind.i64 n])) = (true)) → (((((IntKind.i64) = (IntKind.i64)) ∧ ((if placeE st pl ho ge p h n = (0 : Int) then statI st pl p n else (0 : Int)) = (Int.tmod (wrapI (n + wrapI (p * wrapI (Int.tdiv st pl)))) st))) ∧ ((((IntKind.i64) = (IntKind.i64)) ∧ ((if placeE st pl ho ge p h n = (0 : Int) then sideI ho ge h n else (0 : Int)) = (Int.tmod (wrapI (h + wrapI (ge * n))) ho))) ∧ True)) ∧ ((((IntKind.i64) = (IntKind.i64)) ∧ ((placeE st pl ho ge p h n) = ((0 : Int)))) ∧ True))) ∧ (((atC ([FD.int IntKind.i64 st, FD.int IntKind.i64 pl, FD.int IntKind.i64 ho, FD.int IntKind.i64 ge, FD.int IntKind.i64 p, FD.int IntKind.i64 h] ++ [FD.int IntKind.i64 n])) = (false)) → False))) ∧ (((decide (stepsE n = (0 : Int))) = (false)) → ((((decide (stepsE n = (0 : Int))) = (false)) → (((((IntKind.i64) = (IntKind.i64)) ∧ ((if placeE st pl ho ge p h n = (0 : Int) then statI st pl p n else (0 : Int)) = ((0 : Int)))) ∧ ((((IntKind.i64) = (IntKind.i64)) ∧ ((if placeE st pl ho ge p h n = (0 : Int) then sideI ho ge h n else (0 : Int)) = ((0 : Int)))) ∧ True)) ∧ ((((IntKind.i64) = (IntKind.i64)) ∧ ((placeE st pl ho ge p h n) = (stepsE n))) ∧ True))) ∧ (((decide (stepsE n = (0 : Int))) = (true)) → ((((atC ([FD.int IntKind.i64 st, FD.int IntKind.i64 pl, FD.int IntKind.i64 ho, FD.int IntKind.i64 ge, FD.int IntKind.i64 p, FD.int IntKind.i64 h] ++ [FD.int IntKind.i64 n])) = (true)) → (((((IntKind.i64) = (IntKind.i64)) ∧ ((if placeE st pl ho ge p h n = (0 : Int) then statI st pl p n else (0 : Int)) = (Int.tmod (wrapI (n + wrapI (p * wrapI (Int.tdiv st pl)))) st))) ∧ ((((IntKind.i64) = (IntKind.i64)) ∧ ((if placeE st pl ho ge p h n = (0 : Int) then sideI ho ge h n else (0 : Int)) = (Int.tmod (wrapI (h + wrapI (ge * n))) ho))) ∧ True)) ∧ ((((IntKind.i64) = (IntKind.i64)) ∧ ((placeE st pl ho ge p h n) = ((0 : Int)))) ∧ True))) ∧ (((atC ([FD.int IntKind.i64 st, FD.int IntKind.i64 pl, FD.int IntKind.i64 ho, FD.int IntKind.i64 ge, FD.int IntKind.i64 p, FD.int IntKind.i64 h] ++ [FD.int IntKind.i64 n])) = (false)) → False))))))) ∧ (((decide (partE pl ho p h = (0 : Int))) = (false)) → ((((decide (partE pl ho p h = (0 : Int))) = (false)) → (((((IntKind.i64) = (IntKind.i64)) ∧ ((if placeE st pl ho ge p h n = (0 : Int) then statI st pl p n else (0 : Int)) = ((0 : Int)))) ∧ ((((IntKind.i64) = (IntKind.i64)) ∧ ((if placeE st pl ho ge p h n = (0 : Int) then sideI ho ge h n else (0 : Int)) = ((0 : Int)))) ∧ True)) ∧ ((((IntKind.i64) = (IntKind.i64)) ∧ ((placeE st pl ho ge p h n) = (partE pl ho p h))) ∧ True))) ∧ (((decide (partE pl ho p h = (0 : Int))) = (true)) → ((((atC ([FD.int IntKind.i64 st, FD.int IntKind.i64 pl, FD.int IntKind.i64 ho, FD.int IntKind.i64 ge, FD.int IntKind.i64 p, FD.int IntKind.i64 h] ++ [FD.int IntKind.i64 n])) = (true)) → (((((IntKind.i64) = (IntKind.i64)) ∧ ((if placeE st pl ho ge p h n = (0 : Int) then statI st pl p n else (0 : Int)) = (Int.tmod (wrapI (n + wrapI (p * wrapI (Int.tdiv st pl)))) st))) ∧ ((((IntKind.i64) = (IntKind.i64)) ∧ ((if placeE st pl ho ge p h n = (0 : Int) then sideI ho ge h n else (0 : Int)) = (Int.tmod (wrapI (h + wrapI (ge * n))) ho))) ∧ True)) ∧ ((((IntKind.i64) = (IntKind.i64)) ∧ ((placeE st pl ho ge p h n) = ((0 : Int)))) ∧ True))) ∧ (((atC ([FD.int IntKind.i64 st, FD.int IntKind.i64 pl, FD.int IntKind.i64 ho, FD.int IntKind.i64 ge, FD.int IntKind.i64 p, FD.int IntKind.i64 h] ++ [FD.int IntKind.i64 n])) = (false)) → False))))))) ∧ (((decide (rackE st pl ho ge = (0 : Int))) = (false)) → ((((decide (rackE st pl ho ge = (0 : Int))) = (false)) → (((((IntKind.i64) = (IntKind.i64)) ∧ ((if placeE st pl ho ge p h n = (0 : Int) then statI st pl p n else (0 : Int)) = ((0 : Int)))) ∧ ((((IntKind.i64) = (IntKind.i64)) ∧ ((if placeE st pl ho ge p h n = (0 : Int) then sideI ho ge h n else (0 : Int)) = ((0 : Int)))) ∧ True)) ∧ ((((IntKind.i64) = (IntKind.i64)) ∧ ((placeE st pl ho ge p h n) = (rackE st pl ho ge))) ∧ True))) ∧ (((decide (rackE st pl ho ge = (0 : Int))) = (true)) → ((((atC ([FD.int IntKind.i64 st, FD.int IntKind.i64 pl, FD.int IntKind.i64 ho, FD.int IntKind.i64 ge, FD.int IntKind.i64 p, FD.int IntKind.i64 h] ++ [FD.int IntKind.i64 n])) = (true)) → (((((IntKind.i64) = (IntKind.i64)) ∧ ((if placeE st pl ho ge p h n = (0 : Int) then statI st pl p n else (0 : Int)) = (Int.tmod (wrapI (n + wrapI (p * wrapI (Int.tdiv st pl)))) st))) ∧ ((((IntKind.i64) = (IntKind.i64)) ∧ ((if placeE st pl ho ge p h n = (0 : Int) then sideI ho ge h n else (0 : Int)) = (Int.tmod (wrapI (h + wrapI (ge * n))) ho))) ∧ True)) ∧ ((((IntKind.i64) = (IntKind.i64)) ∧ ((placeE st pl ho ge p h n) = ((0 : Int)))) ∧ True))) ∧ (((atC ([FD.int IntKind.i64 st, FD.int IntKind.i64 pl, FD.int IntKind.i64 ho, FD.int IntKind.i64 ge, FD.int IntKind.i64 p, FD.int IntKind.i64 h] ++ [FD.int IntKind.i64 n])) = (false)) → False))))))) ∧ ((true = false) → False))) ∧ ((true = false) → False))) ∧ ((true = false) → False))) := by kernel_rfl
  refine hvc.mpr ?_
  clear hvc
  by_cases h1 : rackE st pl ho ge = 0
  · have := rackE_at h1 p h n
    by_cases h2 : partE pl ho p h = 0 <;> by_cases h3 : stepsE n = 0 <;> simp [h1, h2, h3, placeE, first3, statI, sideI, this]
  · simp [h1, placeE, first3]
def PeriodS : List PT := [.agg [.int .i64, .int .i64, .int .i64, .int .i64]]
def PeriodC : List FD → Bool
  | [.int _ _, .int _ _, .int _ _, .int _ _] => true
  | _ => false
def PeriodR : List FD → List FD
  | [.int _ st, .int _ pl, .int _ ho, .int _ ge] => [.int .i64 (if rackE st pl ho ge = 0 then perI st ho ge else 0), .int .i64 (rackE st pl ho ge)]
  | _ => []
def PeriodI (_st : Int) (_pl : Int) (_ho : Int) (_ge : Int) : Nat → AFam := alts (fun _ => [])
theorem Period_ok : FnOk (mkR sm5 gs2) Try.prog η0 37 (FI.of Try.f37 true) PeriodS (.tup [.one (.int .i64), .one (.int .i64)]) PeriodC PeriodR := by
  refine fnOk_of0 sm5_ok gs2_ok Try.fok37 (fun fds => match fds with | [.int _ st, .int _ pl, .int _ ho, .int _ ge] => PeriodI st pl ho ge | _ => alts fun _ => []) ?_
  intro fds hf hc
  obtain ⟨st, ds0, rfl, hf1⟩ := hf.int
  obtain ⟨pl, ds1, rfl, hf2⟩ := hf1.int
  obtain ⟨ho, ds2, rfl, hf3⟩ := hf2.int
  obtain ⟨ge, ds3, rfl, hf4⟩ := hf3.int
  obtain rfl := hf4.nil
  have hc : (true) = true := hc
  have hvc : (vcF sm5 gs2 (FI.of Try.f37 true) PeriodS (.tup [.one (.int .i64), .one (.int .i64)]) (PeriodI st pl ho ge) noR [.int .i64 st, .int .i64 pl, .int .i64 ho, .int .i64 ge] (PeriodR [.int .i64 st, .int .i64 pl, .int .i64 ho, .int .i64 ge])) =
    ((true = true) ∧ (((true = true) → ((((decide (rackE st pl ho ge = (0 : Int))) = (false)) → ((((IntKind.i64) = (IntKind.i64)) ∧ ((if rackE st pl ho ge = (0 : Int) then perI st ho ge else (0 : Int)) = ((0 : Int)))) ∧ ((((IntKind.i64) = (IntKind.i64)) ∧ ((rackE st pl ho ge) = (rackE st pl ho ge))) ∧ True))) ∧ (((decide (rackE st pl ho ge = (0 : Int))) = (true)) → ((((periodC ([FD.int IntKind.i64 st, FD.int IntKind.i64 pl, FD.int IntKind.i64 ho, FD.int IntKind.i64 ge] ++ [])) = (true)) → ((((IntKind.i64) = (IntKind.i64)) ∧ ((if rackE st pl ho ge = (0 : Int) then perI st ho ge else (0 : Int)) = (perI st ho ge))) ∧ ((((IntKind.i64) = (IntKind.i64)) ∧ ((rackE st pl ho ge) = ((0 : Int)))) ∧ True))) ∧ (((periodC ([FD.int IntKind.i64 st, FD.int IntKind.i64 pl, FD.int IntKind.i64 ho, FD.int IntKind.i64 ge] ++ [])) = (false)) → False))))) ∧ ((true = false) → False))) := by kernel_rfl
  refine hvc.mpr ?_
  clear hvc
  simp
  refine ⟨fun h g => absurd g h, fun h => ⟨fun _ => ⟨fun g => absurd h g, h⟩, rackE_per h⟩⟩
def thicknessS : List PT := [.agg [.int .i64, .int .i64, .int .i64, .int .i64], .one (.list [.list [.int .i64]]), .agg [.int .i64, .int .i64, .int .i64]]
def thicknessC : List FD → Bool
  | [.int _ _, .int _ _, .int _ _, .int _ _, .list _ _ _, .int _ _, .int _ _, .int _ _] => true
  | _ => false
def thicknessR : List FD → List FD
  | [.int _ st, .int _ pl, .int _ ho, .int _ ge, .list _ nfl ffl, .int _ p, .int _ h, .int _ n] => [.int .i64 (if first3 (flowE st pl ho ge nfl ffl) (partE pl ho p h) (stepsE n) = 0 then thickV st pl ho ge p h ffl n else 0), .int .i64 (first3 (flowE st pl ho ge nfl ffl) (partE pl ho p h) (stepsE n))]
  | _ => []
def thicknessI (_st : Int) (_pl : Int) (_ho : Int) (_ge : Int) (_nfl : Nat) (_ffl : Nat → Nat → FD) (_p : Int) (_h : Int) (_n : Int) : Nat → AFam := alts (fun _ => [])
theorem thickness_ok : FnOk (mkR sm5 gs2) Try.prog η0 45 (FI.of Try.f45 true) thicknessS (.tup [.one (.int .i64), .one (.int .i64)]) thicknessC thicknessR := by
  refine fnOk_of0 sm5_ok gs2_ok Try.fok45 (fun fds => match fds with | [.int _ st, .int _ pl, .int _ ho, .int _ ge, .list _ nfl ffl, .int _ p, .int _ h, .int _ n] => thicknessI st pl ho ge nfl ffl p h n | _ => alts fun _ => []) ?_
  intro fds hf hc
  obtain ⟨st, ds0, rfl, hf1⟩ := hf.int
  obtain ⟨pl, ds1, rfl, hf2⟩ := hf1.int
  obtain ⟨ho, ds2, rfl, hf3⟩ := hf2.int
  obtain ⟨ge, ds3, rfl, hf4⟩ := hf3.int
  obtain ⟨nfl, ffl, ds4, rfl, gfl, hf5⟩ := hf4.list
  obtain ⟨p, ds5, rfl, hf6⟩ := hf5.int
  obtain ⟨h, ds6, rfl, hf7⟩ := hf6.int
  obtain ⟨n, ds7, rfl, hf8⟩ := hf7.int
  obtain rfl := hf8.nil
  have hc : (true) = true := hc
  have hvc : (vcF sm5 gs2 (FI.of Try.f45 true) thicknessS (.tup [.one (.int .i64), .one (.int .i64)]) (thicknessI st pl ho ge nfl ffl p h n) noR [.int .i64 st, .int .i64 pl, .int .i64 ho, .int .i64 ge, .list [.list [.int .i64]] nfl ffl, .int .i64 p, .int .i64 h, .int .i64 n] (thicknessR [.int .i64 st, .int .i64 pl, .int .i64 ho, .int .i64 ge, .list [.list [.int .i64]] nfl ffl, .int .i64 p, .int .i64 h, .int .i64 n])) =
    ((true = true) ∧ (((true = true) → ((((decide (flowE st pl ho ge nfl ffl = (0 : Int))) = (false)) → ((((IntKind.i64) = (IntKind.i64)) ∧ ((if first3 (flowE st pl ho ge nfl ffl) (partE pl ho p h) (stepsE n) = (0 : Int) then thickV st pl ho ge p h ffl n else (0 : Int)) = ((0 : Int)))) ∧ ((((IntKind.i64) = (IntKind.i64)) ∧ ((first3 (flowE st pl ho ge nfl ffl) (partE pl ho p h) (stepsE n)) = (flowE st pl ho ge nfl ffl))) ∧ True))) ∧ (((decide (flowE st pl ho ge nfl ffl = (0 : Int))) = (true)) → (((true = true) → (((true = true) → ((((decide (partE pl ho p h = (0 : Int))) = (true)) → ((((decide (stepsE n = (0 : Int))) = (true)) → ((((thickC ([FD.int IntKind.i64 st, FD.int IntKind.i64 pl, FD.int IntKind.i64 ho, FD.int IntKind.i64 ge, FD.int IntKind.i64 p, FD.int IntKind.i64 h] ++ [FD.list [Sh.list [Sh.int IntKind.i64]] nfl ffl, FD.int IntKind.i64 n])) = (true)) → ((((IntKind.i64) = (IntKind.i64)) ∧ ((if first3 (flowE st pl ho ge nfl ffl) (partE pl ho p h) (stepsE n) = (0 : Int) then thickV st pl ho ge p h ffl n else (0 : Int)) = (thickV st pl ho ge p h ffl n))) ∧ ((((IntKind.i64) = (IntKind.i64)) ∧ ((first3 (flowE st pl ho ge nfl ffl) (partE pl ho p h) (stepsE n)) = ((0 : Int)))) ∧ True))) ∧ (((thickC ([FD.int IntKind.i64 st, FD.int IntKind.i64 pl, FD.int IntKind.i64 ho, FD.int IntKind.i64 ge, FD.int IntKind.i64 p, FD.int IntKind.i64 h] ++ [FD.list [Sh.list [Sh.int IntKind.i64]] nfl ffl, FD.int IntKind.i64 n])) = (false)) → False))) ∧ (((decide (stepsE n = (0 : Int))) = (false)) → ((((decide (stepsE n = (0 : Int))) = (false)) → ((((IntKind.i64) = (IntKind.i64)) ∧ ((if first3 (flowE st pl ho ge nfl ffl) (partE pl ho p h) (stepsE n) = (0 : Int) then thickV st pl ho ge p h ffl n else (0 : Int)) = ((0 : Int)))) ∧ ((((IntKind.i64) = (IntKind.i64)) ∧ ((first3 (flowE st pl ho ge nfl ffl) (partE pl ho p h) (stepsE n)) = (stepsE n))) ∧ True))) ∧ (((decide (stepsE n = (0 : Int))) = (true)) → ((((thickC ([FD.int IntKind.i64 st, FD.int IntKind.i64 pl, FD.int IntKind.i64 ho, FD.int IntKind.i64 ge, FD.int IntKind.i64 p, FD.int IntKind.i64 h] ++ [FD.list [Sh.list [Sh.int IntKind.i64]] nfl ffl, FD.int IntKind.i64 n])) = (true)) → ((((IntKind.i64) = (IntKind.i64)) ∧ ((if first3 (flowE st pl ho ge nfl ffl) (partE pl ho p h) (stepsE n) = (0 : Int) then thickV st pl ho ge p h ffl n else (0 : Int)) = (thickV st pl ho ge p h ffl n))) ∧ ((((IntKind.i64) = (IntKind.i64)) ∧ ((first3 (flowE st pl ho ge nfl ffl) (partE pl ho p h) (stepsE n)) = ((0 : Int)))) ∧ True))) ∧ (((thickC ([FD.int IntKind.i64 st, FD.int IntKind.i64 pl, FD.int IntKind.i64 ho, FD.int IntKind.i64 ge, FD.int IntKind.i64 p, FD.int IntKind.i64 h] ++ [FD.list [Sh.list [Sh.int IntKind.i64]] nfl ffl, FD.int IntKind.i64 n])) = (false)) → False))))))) ∧ (((decide (partE pl ho p h = (0 : Int))) = (false)) → ((((decide (partE pl ho p h = (0 : Int))) = (false)) → ((((IntKind.i64) = (IntKind.i64)) ∧ ((if first3 (flowE st pl ho ge nfl ffl) (partE pl ho p h) (stepsE n) = (0 : Int) then thickV st pl ho ge p h ffl n else (0 : Int)) = ((0 : Int)))) ∧ ((((IntKind.i64) = (IntKind.i64)) ∧ ((first3 (flowE st pl ho ge nfl ffl) (partE pl ho p h) (stepsE n)) = (partE pl ho p h))) ∧ True))) ∧ (((decide (partE pl ho p h = (0 : Int))) = (true)) → ((((thickC ([FD.int IntKind.i64 st, FD.int IntKind.i64 pl, FD.int IntKind.i64 ho, FD.int IntKind.i64 ge, FD.int IntKind.i64 p, FD.int IntKind.i64 h] ++ [FD.list [Sh.list [Sh.int IntKind.i64]] nfl ffl, FD.int IntKind.i64 n])) = (true)) → ((((IntKind.i64) = (IntKind.i64)) ∧ ((if first3 (flowE st pl ho ge nfl ffl) (partE pl ho p h) (stepsE n) = (0 : Int) then thickV st pl ho ge p h ffl n else (0 : Int)) = (thickV st pl ho ge p h ffl n))) ∧ ((((IntKind.i64) = (IntKind.i64)) ∧ ((first3 (flowE st pl ho ge nfl ffl) (partE pl ho p h) (stepsE n)) = ((0 : Int)))) ∧ True))) ∧ (((thickC ([FD.int IntKind.i64 st, FD.int IntKind.i64 pl, FD.int IntKind.i64 ho, FD.int IntKind.i64 ge, FD.int IntKind.i64 p, FD.int IntKind.i64 h] ++ [FD.list [Sh.list [Sh.int IntKind.i64]] nfl ffl, FD.int IntKind.i64 n])) = (false)) → False))))))) ∧ ((true = false) → False))) ∧ ((true = false) → False))))) ∧ ((true = false) → False))) := by kernel_rfl
  refine hvc.mpr ?_
  clear hvc
  by_cases h1 : flowE st pl ho ge nfl ffl = 0
  · obtain ⟨e1, e2, e3, e4⟩ := flowE_ok h1
    have e5 := rackE_ok e1
    have hth : partE pl ho p h = 0 → stepsE n = 0 → thickC [.int .i64 st, .int .i64 pl, .int .i64 ho, .int .i64 ge, .int .i64 p, .int .i64 h, .list [.list [.int .i64]] nfl ffl, .int .i64 n] = true := fun a b => by
      have e6 := partE_ok e5 a
      simp only [thickC, e5, e6, e3, Bool.true_and]
      unfold stepsE at b
      simp only [Bool.and_eq_true, decide_eq_true_eq]
      split at b
      · omega
      · omega
    by_cases h2 : partE pl ho p h = 0 <;> by_cases h3 : stepsE n = 0 <;> simp [h1, h2, h3, first3] <;> simp [hth h2 h3]
  · simp [h1, first3]
end
end Go.Ex

