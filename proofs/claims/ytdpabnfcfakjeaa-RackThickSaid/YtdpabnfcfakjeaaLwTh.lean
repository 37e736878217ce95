/-
  Thicknesses as sums, without overflow; the sums of a table's rows.
-/
/-
  The document's thickness: how often a part is at each place, times what it gets there.
-/
/-
  Contracts: the document's thickness of a part.
-/
/-
  Contracts: the document's least steps for a thickness.
-/
/-
  The law RackThick, as the executor's contract.
-/
import Derived.Test.YtdpabnfcfakjeaaLwTb
import Derived.Test.YtdpabnfcfakjeaaLwVs

namespace Go.Ex
open Go Go.Proofs Go.RowKit
noncomputable section
set_option maxRecDepth 1000000

/-- What a part gets at a step. -/
def flA (f : Nat → Nat → FD) (S P H G Q K t : Nat) : Int := flowAt S H f (t + Q * (S / P), K + G * t)
def FT (f : Nat → Nat → FD) (S P H G Q K n : Nat) : Int := isum (flA f S P H G Q K) n
/-- The flow is right. -/
def FlowOk (f : Nat → Nat → FD) (S H : Nat) : Prop := ∀ a b : Nat, 0 ≤ flowAt S H f (a, b) ∧ flowAt S H f (a, b) ≤ 100
theorem flowE_fl {st pl ho ge : Int} {n : Nat} {f : Nat → Nat → FD} (h : flowE st pl ho ge n f = 0) : FlowOk f st.toNat ho.toNat := by
  obtain ⟨e1, e2, e3, e4⟩ := flowE_ok h
  obtain ⟨S, P, H, G, ⟨rfl, rfl, rfl, rfl⟩, c1, c2, c3, c4, c5, c6, c7, c8⟩ := rack_nat (rackE_ok e1)
  obtain ⟨w1, w2⟩ := rows_nat e3
  intro a b
  simp only [Int.toNat_natCast, flowAt]
  exact e4 _ (Nat.lt_of_lt_of_le (Nat.mod_lt _ (by omega)) (by omega)) _ (Nat.lt_of_lt_of_le (Nat.mod_lt _ (by omega)) (w2 _ (Nat.mod_lt _ (by omega))))
theorem FT_bd {f : Nat → Nat → FD} {S H : Nat} (hf : FlowOk f S H) (P G Q K n : Nat) : 0 ≤ FT f S P H G Q K n ∧ FT f S P H G Q K n ≤ 100 * n := isum_bd fun _ _ => hf _ _
theorem thA_places {f : Nat → Nat → FD} {S H : Nat} (hf : FlowOk f S H) (P G Q K m : Nat) : ∀ n, n ≤ 100000 → thA S H f (m : Int) (placesL S P G Q K n) = (FT f S P H G Q K n, FT f S P H G Q K (min n m), (n : Int))
  | 0, _ => by simp [placesL, thA, FT, isum]
  | n + 1, hn => by
    have b1 := FT_bd hf P G Q K n
    have b2 := FT_bd hf P G Q K (min n m)
    have b3 := hf (n + Q * (S / P)) (K + G * n)
    have b4 : ((f ((n + Q * (S / P)) % S) 0).fn ((K + G * n) % H) 0).i = flowAt S H f (n + Q * (S / P), K + G * n) := rfl
    have hmin : min n m ≤ n := Nat.min_le_left _ _
    rw [placesL_succ, thA_snoc, thA_places hf P G Q K m n (by omega)]
    simp only [thF, b4]
    rw [wrap_id (by omega) (by omega), wrap_id (n := (n : Int) + 1) (by omega) (by omega)]
    refine Prod.ext rfl (Prod.ext ?_ rfl)
    simp only
    by_cases h : n < m
    · rw [if_pos (by omega), Nat.min_eq_left (by omega), Nat.min_eq_left (by omega), wrap_id (by rw [Nat.min_eq_left (by omega)] at b2; omega) (by rw [Nat.min_eq_left (by omega)] at b2; omega)]
      rfl
    · rw [if_neg (by omega), Nat.min_eq_right (by omega), Nat.min_eq_right (by omega)]
/-- The thickness of a part. -/
theorem thickV_eq {f : Nat → Nat → FD} {S P H G Q K n : Nat} (c1 : 1 ≤ S) (c2 : S ≤ 24) (c5 : 1 ≤ H) (c6 : H ≤ 12) (hf : FlowOk f S H) (hn : n ≤ 1000000) :
    thickV S P H G Q K f n = (n / perN S H G : Nat) * FT f S P H G Q K (perN S H G) + FT f S P H G Q K (n % perN S H G) := by
  have hper : perI (S : Int) H G = (perN S H G : Nat) := perI_nat c2 c6
  have hp := perN_pos G c1 c5
  have hb := perN_le S H G
  have hSH : S * H ≤ 24 * 12 := Nat.mul_le_mul c2 c6
  unfold thickV thR stepsI
  simp only [hper, Int.toNat_natCast]
  generalize hq : perN S H G = p at *
  have em : ((n : Int).tmod (p : Int)) = ((n % p : Nat) : Int) := by rw [Int.tmod_eq_emod_of_nonneg (by omega), Int.natCast_emod]
  rw [em]
  by_cases h : n < p
  · rw [if_pos (by omega), if_pos (by omega), Int.toNat_natCast, thA_places hf P G Q K _ n (by omega), Nat.div_eq_of_lt h, Nat.mod_eq_of_lt h]
    simp
  · have hm := Nat.mod_lt n hp
    have b1 := FT_bd hf P G Q K p
    have b2 := FT_bd hf P G Q K (n % p)
    have ed : ((n : Int).tdiv (p : Int)) = ((n / p : Nat) : Int) := by rw [Int.tdiv_eq_ediv_of_nonneg (by omega), Int.natCast_ediv]
    have hd : n / p ≤ n := Nat.div_le_self _ _
    rw [if_neg (by omega), if_neg (by omega), Int.toNat_natCast, thA_places hf P G Q K _ p (by omega), ed, Nat.min_eq_right (by omega)]
    simp only
    generalize FT f S P H G Q K p = A at *
    generalize FT f S P H G Q K (n % p) = B at *
    generalize n / p = d at *
    have h1 : 0 ≤ (d : Int) * A := Int.mul_nonneg (by omega) b1.1
    have h2 : (d : Int) * A ≤ 1000000 * 100000 := Int.mul_le_mul (by omega) (by omega) b1.1 (by omega)
    rw [wrap_id (n := (d : Int)) (by omega) (by omega), wrap_id (n := (d : Int) * A) (by omega) (by omega), wrap_id (n := (d : Int) * A + B) (by omega) (by omega)]
end
end Go.Ex


namespace Go.Ex
open Go Go.Proofs Go.RowKit
noncomputable section
set_option maxRecDepth 1000000

theorem isum_addf (f g : Nat → Int) : ∀ n, isum (fun i => f i + g i) n = isum f n + isum g n
  | 0 => rfl
  | n + 1 => by simp only [isum, isum_addf f g n]; omega
theorem isum_zero : ∀ n, isum (fun _ => 0) n = 0
  | 0 => rfl
  | n + 1 => by simp only [isum, isum_zero n]; rfl
theorem isum_one (a : Nat) (c : Int) : ∀ n, isum (fun i => if i = a then c else 0) n = if a < n then c else 0
  | 0 => by simp [isum]
  | n + 1 => by
    simp only [isum, isum_one a c n]
    by_cases h1 : n = a
    · subst h1; simp
    · by_cases h2 : a < n
      · rw [if_pos h2, if_neg h1, if_pos (by omega)]; omega
      · rw [if_neg h2, if_neg h1, if_neg (by omega)]; rfl
theorem flA_at (f : Nat → Nat → FD) (S P H G Q K t : Nat) : flowAt S H f ((t + Q * (S / P)) % S, (K + G * t) % H) = flA f S P H G Q K t := by
  simp only [flA, flowAt, Nat.mod_mod]
theorem cnt_flow {S P H G Q K : Nat} (f : Nat → Nat → FD) (hS : 1 ≤ S) (hH : 1 ≤ H) (N : Nat) : isum (fun i => isum (fun k => cntV S P H G Q K N i k * flowAt S H f (i, k)) H) S = FT f S P H G Q K N := by
  induction N with
  | zero => simp only [cntV, Int.zero_mul, isum_zero]; rfl
  | succ N ih =>
    have e : ∀ i k, cntV S P H G Q K (N + 1) i k * flowAt S H f (i, k) = cntV S P H G Q K N i k * flowAt S H f (i, k) + if k = (K + G * N) % H then (if i = (N + Q * (S / P)) % S then flA f S P H G Q K N else 0) else 0 := fun i k => by
      simp only [cntV]
      by_cases h1 : i = (N + Q * (S / P)) % S
      · by_cases h2 : k = (K + G * N) % H
        · rw [if_pos ⟨h1, h2⟩, if_pos h2, if_pos h1, Int.add_mul, Int.one_mul]
          congr 1
          rw [h1, h2, flA_at]
        · rw [if_neg (fun x => h2 x.2), if_neg h2]; omega
      · by_cases h2 : k = (K + G * N) % H
        · rw [if_neg (fun x => h1 x.1), if_pos h2, if_neg h1]; omega
        · rw [if_neg (fun x => h2 x.2), if_neg h2]; omega
    simp only [e, isum_addf, isum_one, ih, if_pos (Nat.mod_lt (K + G * N) hH), if_pos (Nat.mod_lt (N + Q * (S / P)) hS)]
    rfl
/-- The thickness by whole periods is the plain sum. -/
theorem FT_per {f : Nat → Nat → FD} {S P H G Q K : Nat} (hS : 1 ≤ S) (hH : 1 ≤ H) (n : Nat) : FT f S P H G Q K n = (n / perN S H G : Nat) * FT f S P H G Q K (perN S H G) + FT f S P H G Q K (n % perN S H G) := by
  have hp := perN_pos G hS hH
  have key : ∀ t, flA f S P H G Q K (t % perN S H G) = flA f S P H G Q K t := fun t => by
    obtain ⟨e1, e2⟩ := place_per (S := S) (P := P) (H := H) (G := G) (Q := Q) (K := K) hS hH t
    rw [← flA_at, e1, e2, flA_at]
  have step : ∀ d r, FT f S P H G Q K (perN S H G * d + r) = (d : Int) * FT f S P H G Q K (perN S H G) + FT f S P H G Q K r := fun d r => by
    have shift : ∀ d t, flA f S P H G Q K (perN S H G * d + t) = flA f S P H G Q K t := fun d t => by
      rw [← key, Nat.mul_add_mod, key]
    have full : ∀ d, FT f S P H G Q K (perN S H G * d) = (d : Int) * FT f S P H G Q K (perN S H G) := fun d => by
      induction d with
      | zero => simp [FT, isum]
      | succ d ih =>
        rw [Nat.mul_succ]
        show isum _ (perN S H G * d + perN S H G) = _
        rw [isum_add, isum_congr fun j _ => shift d j]
        show FT f S P H G Q K (perN S H G * d) + FT f S P H G Q K (perN S H G) = _
        rw [ih, Int.natCast_succ, Int.add_mul, Int.one_mul]
    show isum _ (perN S H G * d + r) = _
    rw [isum_add, isum_congr fun j _ => shift d j]
    show FT f S P H G Q K (perN S H G * d) + FT f S P H G Q K r = _
    rw [full]
  have := step (n / perN S H G) (n % perN S H G)
  rwa [Nat.div_add_mod] at this
theorem thickV_FT {f : Nat → Nat → FD} {S P H G Q K n : Nat} (c1 : 1 ≤ S) (c2 : S ≤ 24) (c5 : 1 ≤ H) (c6 : H ≤ 12) (hf : FlowOk f S H) (hn : n ≤ 1000000) : thickV S P H G Q K f n = FT f S P H G Q K n := by
  rw [thickV_eq c1 c2 c5 c6 hf hn, ← FT_per c1 c5]
end
end Go.Ex


namespace Go.Ex
open Go Go.Proofs Go.RowKit
noncomputable section
set_option maxRecDepth 1000000

def smW : T Smf := (T.set smV 53 (some (gFd refStepsS (.one (.int .i64)) refStepsC refStepsR)))
theorem smW_ok : Tab SmOk smW := (Tab.set smV_ok (by kernel_rfl) (smOk_of smV_ok gs6_ok refSteps_ok rfl))
def gsW : G2 := (G2.setG gs6 39 (gFd VisitsS (.tup [.one (.list [.list [.int .i64]]), .one (.int .i64)]) VisitsC VisitsR))
theorem gsW_ok : G2Ok gsW := (G2Ok.setG gs6_ok (by kernel_rfl) (gsOk_of smV_ok gs6_ok Visits_ok))
def trow (f : Nat → Nat → FD) (S P H G Q K N i k : Nat) : Int := isum (fun k => cntV S P H G Q K N i k * flowAt S H f (i, k)) k
def tall (f : Nat → Nat → FD) (S P H G Q K N x : Nat) : Int := isum (fun i => trow f S P H G Q K N i H) x
def refThickS : List PT := [.agg [.int .i64, .int .i64, .int .i64, .int .i64], .one (.list [.list [.int .i64]]), .agg [.int .i64, .int .i64, .int .i64]]
def refThickC : List FD → Bool
  | [.int _ st, .int _ pl, .int _ ho, .int _ ge, .list _ nfl ffl, .int _ p, .int _ h, .int _ n] => decide (flowE st pl ho ge nfl ffl = 0) && (decide (partE pl ho p h = 0) && decide (stepsE n = 0))
  | _ => false
def refThickR : List FD → List FD
  | [.int _ st, .int _ pl, .int _ ho, .int _ ge, .list _ _ ffl, .int _ p, .int _ h, .int _ n] => [.int .i64 (thickV st pl ho ge p h ffl n)]
  | _ => []
def refThickI (st : Int) (pl : Int) (ho : Int) (ge : Int) (nfl : Nat) (ffl : Nat → Nat → FD) (p : Int) (h : Int) (n : Int) : Nat → AFam := fun i => match i with | 4 => ⟨Nat, fun _ => [{ι := Nat, G := fun x => x ≤ st.toNat, μ := fun x => st.toNat - x, tl := fun x => [(0, .agg [.int IntKind.i64 (.tm st), .int IntKind.i64 (.tm pl), .int IntKind.i64 (.tm ho), .int IntKind.i64 (.tm ge)]), (1, .one (.fz (.root 0 4) (FD.list [Sh.list [Sh.int IntKind.i64]] nfl ffl))), (2, .agg [.int IntKind.i64 (.tm p), .int IntKind.i64 (.tm h), .int IntKind.i64 (.tm n)]), (3, .one (.ptr (some (1, 0)))), (5, .one (.ptr (some (2, 0)))), (6, .one (.int IntKind.i64 (.lit (0 : Int)))), (7, .one (.fz (.root 3 0) (FD.list [Sh.list [Sh.int IntKind.i64]] (Int.toNat st) fun (i x : Nat) => FD.list [Sh.int IntKind.i64] (Int.toNat ho) fun (k x : Nat) => FD.int IntKind.i64 (refV (Int.toNat st) (Int.toNat pl) (Int.toNat ho) (Int.toNat ge) (Int.toNat p) (Int.toNat h) (Int.toNat n) (Int.toNat (perI st ho ge)) (Int.toNat (perI st ho ge)) i k)))), (8, .one (.int IntKind.i64 (.tm (tall ffl st.toNat pl.toNat ho.toNat ge.toNat p.toNat h.toNat n.toNat x)))), (9, .one (.int IntKind.i64 (.tm (Int.ofNat x))))], bl := fun x => [(1, .cells 47 4 [.int IntKind.i64 (.tm st), .int IntKind.i64 (.tm pl), .int IntKind.i64 (.tm ho), .int IntKind.i64 (.tm ge)]), (2, .cells 83 3 [.int IntKind.i64 (.tm p), .int IntKind.i64 (.tm h), .int IntKind.i64 (.tm n)])], nx := (1 : Nat) + (1 : Nat) + (1 : Nat) + (1 : Nat)}]⟩ | 7 => ⟨Nat, fun z => [{ι := Nat, G := fun x => z < st.toNat ∧ x ≤ ho.toNat, μ := fun x => ho.toNat - x, tl := fun x => [(0, .agg [.int IntKind.i64 (.tm st), .int IntKind.i64 (.tm pl), .int IntKind.i64 (.tm ho), .int IntKind.i64 (.tm ge)]), (1, .one (.fz (.root 0 4) (FD.list [Sh.list [Sh.int IntKind.i64]] nfl ffl))), (2, .agg [.int IntKind.i64 (.tm p), .int IntKind.i64 (.tm h), .int IntKind.i64 (.tm n)]), (3, .one (.ptr (some (1, 0)))), (5, .one (.ptr (some (2, 0)))), (6, .one (.int IntKind.i64 (.lit (0 : Int)))), (7, .one (.fz (.root 3 0) (FD.list [Sh.list [Sh.int IntKind.i64]] (Int.toNat st) fun (i x : Nat) => FD.list [Sh.int IntKind.i64] (Int.toNat ho) fun (k x : Nat) => FD.int IntKind.i64 (refV (Int.toNat st) (Int.toNat pl) (Int.toNat ho) (Int.toNat ge) (Int.toNat p) (Int.toNat h) (Int.toNat n) (Int.toNat (perI st ho ge)) (Int.toNat (perI st ho ge)) i k)))), (8, .one (.int IntKind.i64 (.tm (tall ffl st.toNat pl.toNat ho.toNat ge.toNat p.toNat h.toNat n.toNat z + trow ffl st.toNat pl.toNat ho.toNat ge.toNat p.toNat h.toNat n.toNat z x)))), (9, .one (.int IntKind.i64 (.tm (Int.ofNat z)))), (10, .one (.int IntKind.i64 (.tm (Int.ofNat x))))], bl := fun x => [(1, .cells 47 4 [.int IntKind.i64 (.tm st), .int IntKind.i64 (.tm pl), .int IntKind.i64 (.tm ho), .int IntKind.i64 (.tm ge)]), (2, .cells 83 3 [.int IntKind.i64 (.tm p), .int IntKind.i64 (.tm h), .int IntKind.i64 (.tm n)])], nx := (1 : Nat) + (1 : Nat) + (1 : Nat) + (1 : Nat)}]⟩ | _ => ⟨Nat, fun _ => []⟩
abbrev qrefThick0 (st : Int) (pl : Int) (ho : Int) (ge : Int) (p : Int) (h : Int) (n : Int) : Prop := (((Ref.root (3) (0)) = (Ref.root (3) (0))) ∧ (((FD.list [Sh.list [Sh.int IntKind.i64]] (Int.toNat st) fun (i x : Nat) => FD.list [Sh.int IntKind.i64] (Int.toNat ho) fun (k x : Nat) => FD.int IntKind.i64 (refV (Int.toNat st) (Int.toNat pl) (Int.toNat ho) (Int.toNat ge) (Int.toNat p) (Int.toNat h) (Int.toNat n) (Int.toNat (perI st ho ge)) (Int.toNat (perI st ho ge)) i k)) = (FD.list [Sh.list [Sh.int IntKind.i64]] (Int.toNat st) fun (i x : Nat) => FD.list [Sh.int IntKind.i64] (Int.toNat ho) fun (k x : Nat) => FD.int IntKind.i64 (refV (Int.toNat st) (Int.toNat pl) (Int.toNat ho) (Int.toNat ge) (Int.toNat p) (Int.toNat h) (Int.toNat n) (Int.toNat (perI st ho ge)) (Int.toNat (perI st ho ge)) i k))) ∧ (true = true)))
abbrev qrefThick1 (st : Int) (pl : Int) (ho : Int) (ge : Int) : Prop := ((((IntKind.i64) = (IntKind.i64)) ∧ ((st) = (st))) ∧ ((((IntKind.i64) = (IntKind.i64)) ∧ ((pl) = (pl))) ∧ ((((IntKind.i64) = (IntKind.i64)) ∧ ((ho) = (ho))) ∧ ((((IntKind.i64) = (IntKind.i64)) ∧ ((ge) = (ge))) ∧ True))))
abbrev qrefThick2 (p : Int) (h : Int) (n : Int) : Prop := ((((IntKind.i64) = (IntKind.i64)) ∧ ((p) = (p))) ∧ ((((IntKind.i64) = (IntKind.i64)) ∧ ((h) = (h))) ∧ ((((IntKind.i64) = (IntKind.i64)) ∧ ((n) = (n))) ∧ True)))
abbrev qrefThick3 (nfl : Nat) (ffl : Nat → Nat → FD) : Prop := (((Ref.root (0) (4)) = (Ref.root (0) (4))) ∧ (((FD.list [Sh.list [Sh.int IntKind.i64]] nfl ffl) = (FD.list [Sh.list [Sh.int IntKind.i64]] nfl ffl)) ∧ (true = true)))
theorem refThick_ok : FnOk (mkR smW gsW) Try.prog η0 67 (FI.of Try.f67 true) refThickS (.one (.int .i64)) refThickC refThickR := by
  refine fnOk_of0 smW_ok gsW_ok Try.fok67 (fun fds => match fds with | [.int _ st, .int _ pl, .int _ ho, .int _ ge, .list _ nfl ffl, .int _ p, .int _ h, .int _ n] => refThickI st pl ho ge nfl ffl p h n | _ => alts fun _ => []) ?_
  intro fds hf hc
  obtain ⟨st, ds0, rfl, hf1⟩ := hf.int
  obtain ⟨pl, ds1, rfl, hf2⟩ := hf1.int
  obtain ⟨ho, ds2, rfl, hf3⟩ := hf2.int
  obtain ⟨ge, ds3, rfl, hf4⟩ := hf3.int
  obtain ⟨nfl, ffl, ds4, rfl, gfl, hf5⟩ := hf4.list
  obtain ⟨p, ds5, rfl, hf6⟩ := hf5.int
  obtain ⟨h, ds6, rfl, hf7⟩ := hf6.int
  obtain ⟨n, ds7, rfl, hf8⟩ := hf7.int
  obtain rfl := hf8.nil
  have hc : (decide (flowE st pl ho ge nfl ffl = 0) && (decide (partE pl ho p h = 0) && decide (stepsE n = 0))) = true := hc
  have hvc : (vcF smW gsW (FI.of Try.f67 true) refThickS (.one (.int .i64)) (refThickI st pl ho ge nfl ffl p h n) noR [.int .i64 st, .int .i64 pl, .int .i64 ho, .int .i64 ge, .list [.list [.int .i64]] nfl ffl, .int .i64 p, .int .i64 h, .int .i64 n] (refThickR [.int .i64 st, .int .i64 pl, .int .i64 ho, .int .i64 ge, .list [.list [.int .i64]] nfl ffl, .int .i64 p, .int .i64 h, .int .i64 n])) =
    ((true = true) ∧ ((((refVisitsC ([FD.int IntKind.i64 st, FD.int IntKind.i64 pl, FD.int IntKind.i64 ho, FD.int IntKind.i64 ge] ++ ([FD.int IntKind.i64 p, FD.int IntKind.i64 h] ++ [FD.int IntKind.i64 n]))) = (true)) → (∃ y0 : Nat, ((∃ y1 : Nat, ((y1 ≤ Int.toNat st ∧ True) ∧ (((true = true) ∧ ((qrefThick1 st pl ho ge) ∧ ((qrefThick3 nfl ffl) ∧ ((qrefThick2 p h n) ∧ ((((1, 1) ∈ ([(2, 2), (1, 1)] : List (Nat × Nat))) ∧ ((0) = (0))) ∧ ((((2, 2) ∈ ([(2, 2), (1, 1)] : List (Nat × Nat))) ∧ ((0) = (0))) ∧ ((((IntKind.i64) = (IntKind.i64)) ∧ (((0 : Int)) = ((0 : Int)))) ∧ ((qrefThick0 st pl ho ge p h n) ∧ ((((IntKind.i64) = (IntKind.i64)) ∧ ((tall ffl (Int.toNat st) (Int.toNat pl) (Int.toNat ho) (Int.toNat ge) (Int.toNat p) (Int.toNat h) (Int.toNat n) y1) = ((0 : Int)))) ∧ ((((IntKind.i64) = (IntKind.i64)) ∧ ((Int.ofNat y1) = ((0 : Int)))) ∧ True)))))))))) ∧ (((((47 : TypeId)) = ((47 : Nat))) ∧ (((4) = (4)) ∧ (qrefThick1 st pl ho ge))) ∧ (((((83 : TypeId)) = ((83 : Nat))) ∧ (((3) = (3)) ∧ (qrefThick2 p h n))) ∧ True))))) ∧ (∀ y1 : Nat, (y1 ≤ Int.toNat st → ((((decide (Int.ofNat y1 < st)) = (true)) → (∃ y2 : Nat, ((∃ y3 : Nat, (((y2 < Int.toNat st ∧ y3 ≤ Int.toNat ho) ∧ True) ∧ (((true = true) ∧ ((qrefThick1 st pl ho ge) ∧ ((qrefThick3 nfl ffl) ∧ ((qrefThick2 p h n) ∧ ((((1, 1) ∈ ([(2, 2), (1, 1)] : List (Nat × Nat))) ∧ ((0) = (0))) ∧ ((((2, 2) ∈ ([(2, 2), (1, 1)] : List (Nat × Nat))) ∧ ((0) = (0))) ∧ ((((IntKind.i64) = (IntKind.i64)) ∧ (((0 : Int)) = ((0 : Int)))) ∧ ((qrefThick0 st pl ho ge p h n) ∧ ((((IntKind.i64) = (IntKind.i64)) ∧ ((tall ffl (Int.toNat st) (Int.toNat pl) (Int.toNat ho) (Int.toNat ge) (Int.toNat p) (Int.toNat h) (Int.toNat n) y2 + trow ffl (Int.toNat st) (Int.toNat pl) (Int.toNat ho) (Int.toNat ge) (Int.toNat p) (Int.toNat h) (Int.toNat n) y2 y3) = (tall ffl (Int.toNat st) (Int.toNat pl) (Int.toNat ho) (Int.toNat ge) (Int.toNat p) (Int.toNat h) (Int.toNat n) y1))) ∧ ((((IntKind.i64) = (IntKind.i64)) ∧ ((Int.ofNat y2) = (Int.ofNat y1))) ∧ ((((IntKind.i64) = (IntKind.i64)) ∧ ((Int.ofNat y3) = ((0 : Int)))) ∧ True))))))))))) ∧ (((((47 : TypeId)) = ((47 : TypeId))) ∧ (((4) = (4)) ∧ (qrefThick1 st pl ho ge))) ∧ (((((83 : TypeId)) = ((83 : TypeId))) ∧ (((3) = (3)) ∧ (qrefThick2 p h n))) ∧ True))))) ∧ (∀ y3 : Nat, ((y2 < Int.toNat st ∧ y3 ≤ Int.toNat ho) → ((((decide (Int.ofNat y3 < ho)) = (true)) → ((((decide ((0 : Int) ≤ Int.ofNat y2) && decide (Int.ofNat y2 < (↑(Int.toNat st) : Int))) = (true)) → ((((decide ((0 : Int) ≤ Int.ofNat y3) && decide (Int.ofNat y3 < (↑(Int.toNat ho) : Int))) = (true)) → ((((decide ((0 : Int) ≤ Int.ofNat y2) && decide (Int.ofNat y2 < (↑nfl : Int))) = (true)) → ((((decide ((0 : Int) ≤ Int.ofNat y3) && decide (Int.ofNat y3 < (↑(FD.ln (ffl (Int.toNat (Int.ofNat y2)) (0 : Nat))) : Int))) = (true)) → (∃ y4 : Nat, (((y2 < Int.toNat st ∧ y4 ≤ Int.toNat ho) ∧ Int.toNat ho - y4 < Int.toNat ho - y3) ∧ (((true = true) ∧ ((qrefThick1 st pl ho ge) ∧ ((qrefThick3 nfl ffl) ∧ ((qrefThick2 p h n) ∧ ((((1, 1) ∈ ([(2, 2), (1, 1)] : List (Nat × Nat))) ∧ ((0) = (0))) ∧ ((((2, 2) ∈ ([(2, 2), (1, 1)] : List (Nat × Nat))) ∧ ((0) = (0))) ∧ ((((IntKind.i64) = (IntKind.i64)) ∧ (((0 : Int)) = ((0 : Int)))) ∧ ((qrefThick0 st pl ho ge p h n) ∧ ((((IntKind.i64) = (IntKind.i64)) ∧ ((tall ffl (Int.toNat st) (Int.toNat pl) (Int.toNat ho) (Int.toNat ge) (Int.toNat p) (Int.toNat h) (Int.toNat n) y2 + trow ffl (Int.toNat st) (Int.toNat pl) (Int.toNat ho) (Int.toNat ge) (Int.toNat p) (Int.toNat h) (Int.toNat n) y2 y4) = (IntKind.wrap IntKind.i64 (tall ffl (Int.toNat st) (Int.toNat pl) (Int.toNat ho) (Int.toNat ge) (Int.toNat p) (Int.toNat h) (Int.toNat n) y2 + trow ffl (Int.toNat st) (Int.toNat pl) (Int.toNat ho) (Int.toNat ge) (Int.toNat p) (Int.toNat h) (Int.toNat n) y2 y3 + IntKind.wrap IntKind.i64 (refV (Int.toNat st) (Int.toNat pl) (Int.toNat ho) (Int.toNat ge) (Int.toNat p) (Int.toNat h) (Int.toNat n) (Int.toNat (perI st ho ge)) (Int.toNat (perI st ho ge)) (Int.toNat (Int.ofNat y2)) (Int.toNat (Int.ofNat y3)) * FD.i (FD.fn (ffl (Int.toNat (Int.ofNat y2)) (0 : Nat)) (Int.toNat (Int.ofNat y3)) (0 : Nat))))))) ∧ ((((IntKind.i64) = (IntKind.i64)) ∧ ((Int.ofNat y2) = (Int.ofNat y2))) ∧ ((((IntKind.i64) = (IntKind.i64)) ∧ ((Int.ofNat y4) = (IntKind.wrap IntKind.i64 (Int.ofNat y3 + (1 : Int))))) ∧ True))))))))))) ∧ (((((47 : TypeId)) = ((47 : TypeId))) ∧ (((4) = (4)) ∧ (qrefThick1 st pl ho ge))) ∧ (((((83 : TypeId)) = ((83 : TypeId))) ∧ (((3) = (3)) ∧ (qrefThick2 p h n))) ∧ True)))))) ∧ (((decide ((0 : Int) ≤ Int.ofNat y3) && decide (Int.ofNat y3 < (↑(FD.ln (ffl (Int.toNat (Int.ofNat y2)) (0 : Nat))) : Int))) = (false)) → False))) ∧ (((decide ((0 : Int) ≤ Int.ofNat y2) && decide (Int.ofNat y2 < (↑nfl : Int))) = (false)) → False))) ∧ (((decide ((0 : Int) ≤ Int.ofNat y3) && decide (Int.ofNat y3 < (↑(Int.toNat ho) : Int))) = (false)) → False))) ∧ (((decide ((0 : Int) ≤ Int.ofNat y2) && decide (Int.ofNat y2 < (↑(Int.toNat st) : Int))) = (false)) → False))) ∧ (((decide (Int.ofNat y3 < ho)) = (false)) → (∃ y4 : Nat, ((y4 ≤ Int.toNat st ∧ Int.toNat st - y4 < Int.toNat st - y1) ∧ (((true = true) ∧ ((qrefThick1 st pl ho ge) ∧ ((qrefThick3 nfl ffl) ∧ ((qrefThick2 p h n) ∧ ((((1, 1) ∈ ([(2, 2), (1, 1)] : List (Nat × Nat))) ∧ ((0) = (0))) ∧ ((((2, 2) ∈ ([(2, 2), (1, 1)] : List (Nat × Nat))) ∧ ((0) = (0))) ∧ ((((IntKind.i64) = (IntKind.i64)) ∧ (((0 : Int)) = ((0 : Int)))) ∧ ((qrefThick0 st pl ho ge p h n) ∧ ((((IntKind.i64) = (IntKind.i64)) ∧ ((tall ffl (Int.toNat st) (Int.toNat pl) (Int.toNat ho) (Int.toNat ge) (Int.toNat p) (Int.toNat h) (Int.toNat n) y4) = (tall ffl (Int.toNat st) (Int.toNat pl) (Int.toNat ho) (Int.toNat ge) (Int.toNat p) (Int.toNat h) (Int.toNat n) y2 + trow ffl (Int.toNat st) (Int.toNat pl) (Int.toNat ho) (Int.toNat ge) (Int.toNat p) (Int.toNat h) (Int.toNat n) y2 y3))) ∧ ((((IntKind.i64) = (IntKind.i64)) ∧ ((Int.ofNat y4) = (IntKind.wrap IntKind.i64 (Int.ofNat y2 + (1 : Int))))) ∧ True)))))))))) ∧ (((((47 : TypeId)) = ((47 : TypeId))) ∧ (((4) = (4)) ∧ (qrefThick1 st pl ho ge))) ∧ (((((83 : TypeId)) = ((83 : TypeId))) ∧ (((3) = (3)) ∧ (qrefThick2 p h n))) ∧ True)))))))))))) ∧ (((decide (Int.ofNat y1 < st)) = (false)) → (((IntKind.i64) = (IntKind.i64)) ∧ ((thickV st pl ho ge p h ffl n) = (tall ffl (Int.toNat st) (Int.toNat pl) (Int.toNat ho) (Int.toNat ge) (Int.toNat p) (Int.toNat h) (Int.toNat n) y1)))))))))) ∧ (((refVisitsC ([FD.int IntKind.i64 st, FD.int IntKind.i64 pl, FD.int IntKind.i64 ho, FD.int IntKind.i64 ge] ++ ([FD.int IntKind.i64 p, FD.int IntKind.i64 h] ++ [FD.int IntKind.i64 n]))) = (false)) → False))) := by kernel_rfl
  refine hvc.mpr ?_
  clear hvc
  dsimp only [qrefThick0, qrefThick1, qrefThick2, qrefThick3]
  simp only [Bool.and_eq_true, decide_eq_true_eq] at hc
  obtain ⟨h1, h2, h3⟩ := hc
  obtain ⟨e1, e2, e3, e4⟩ := flowE_ok h1
  have hF := flowE_fl h1
  have e5 := rackE_ok e1
  have e6 := partE_ok e5 h2
  have e7 := stepsE_ok h3
  obtain ⟨S, P, H, G, ⟨rfl, rfl, rfl, rfl⟩, c1, c2, c3, c4, c5, c6, c7, c8⟩ := rack_nat e5
  obtain ⟨Q, K, ⟨rfl, rfl⟩, c9, c10⟩ := part_nat e6
  obtain ⟨N, rfl⟩ := Int.eq_ofNat_of_zero_le e7.1
  obtain ⟨w1, w2⟩ := rows_nat e3
  simp only [Int.toNat_natCast] at hF
  have hper : perI (S : Int) H G = (perN S H G : Nat) := perI_nat (by omega) (by omega)
  have hV : ∀ i k, refV S P H G Q K N (perN S H G) (perN S H G) i k = cntV S P H G Q K N i k := refV_eq c1 c5 N
  have cV : refVisitsC [FD.int IntKind.i64 (S : Int), FD.int IntKind.i64 (P : Int), FD.int IntKind.i64 (H : Int), FD.int IntKind.i64 (G : Int), FD.int IntKind.i64 (Q : Int), FD.int IntKind.i64 (K : Int), FD.int IntKind.i64 (N : Int)] = true := by
    simp only [refVisitsC, e5, e6, Bool.and_eq_true, decide_eq_true_eq]
    exact ⟨⟨trivial, trivial⟩, by omega, by omega⟩
  have q1 : ∀ a : Nat, a < S → a < nfl := fun a h => by omega
  have q2 : ∀ a b : Nat, a < S → b < H → b < (ffl a 0).ln := fun a b h h' => Nat.lt_of_lt_of_le h' (w2 _ h)
  simp [hper, hV, cV]
  have hfl : ∀ a b : Nat, a < S → b < H → ((ffl a 0).fn b 0).i = flowAt S H ffl (a, b) := fun a b h h' => by
    simp only [flowAt, Nat.mod_eq_of_lt h, Nat.mod_eq_of_lt h']
  have hterm : ∀ i k : Nat, 0 ≤ cntV S P H G Q K N i k * flowAt S H ffl (i, k) ∧ cntV S P H G Q K N i k * flowAt S H ffl (i, k) ≤ 100000000 := fun i k => by
    have b1 := cntV_bd S P H G Q K i k N
    have b2 := hF i k
    refine ⟨Int.mul_nonneg b1.1 b2.1, Int.le_trans (Int.mul_le_mul b1.2 b2.2 b2.1 (by omega)) (by omega)⟩
  have hrow : ∀ i k : Nat, k ≤ H → 0 ≤ trow ffl S P H G Q K N i k ∧ trow ffl S P H G Q K N i k ≤ 1200000000 := fun i k hk => by
    have b : 0 ≤ trow ffl S P H G Q K N i k ∧ trow ffl S P H G Q K N i k ≤ 100000000 * (k : Int) := isum_bd (fun j _ => hterm i j)
    omega
  have hall : ∀ x : Nat, x ≤ S → 0 ≤ tall ffl S P H G Q K N x ∧ tall ffl S P H G Q K N x ≤ 28800000000 := fun x hx => by
    have b : 0 ≤ tall ffl S P H G Q K N x ∧ tall ffl S P H G Q K N x ≤ 1200000000 * (x : Int) := isum_bd (fun j _ => hrow j H (Nat.le_refl _))
    omega
  have w1 : ∀ y : Nat, y < 100 → ((y + 1 : Nat) : Int) = IntKind.i64.wrap ((y : Int) + 1) := fun y hy => by rw [wrap_id (by omega) (by omega)]; rfl
  have hstep : ∀ y y2 y3 : Nat, y2 = y → y < S → y3 = H → ∃ y4, (y4 ≤ S ∧ S - y4 < S - y) ∧ tall ffl S P H G Q K N y4 = tall ffl S P H G Q K N y2 + trow ffl S P H G Q K N y2 y3 ∧ (y4 : Int) = IntKind.i64.wrap ((y2 : Int) + 1) := fun y y2 y3 e hy e3 => by
    subst e; subst e3
    exact ⟨y2 + 1, ⟨by omega, by omega⟩, rfl, w1 y2 (by omega)⟩
  refine ⟨rfl, fun y1 hy => ⟨fun hlt => ⟨y1, ⟨0, ⟨hlt, by omega⟩, by simp [trow, isum], rfl, rfl⟩, fun y3 _ h3 => ⟨fun h3' => ⟨fun _ => ⟨fun _ => ⟨fun _ => ⟨fun _ => ⟨y3 + 1, ⟨⟨hlt, by omega⟩, by omega⟩, ?_, w1 y3 (by omega)⟩, q2 _ _ hlt h3'⟩, q1 _ hlt⟩, h3'⟩, hlt⟩, fun h3' => hstep y1 y1 y3 rfl hlt (by omega)⟩⟩, fun hge => ?_⟩⟩
  · have b1 := hrow y1 y3 (by omega)
    have b2 := hall y1 (by omega)
    have b3 := hterm y1 y3
    have e : trow ffl S P H G Q K N y1 (y3 + 1) = trow ffl S P H G Q K N y1 y3 + cntV S P H G Q K N y1 y3 * flowAt S H ffl (y1, y3) := rfl
    rw [e, hfl y1 y3 hlt h3']
    generalize cntV S P H G Q K N y1 y3 * flowAt S H ffl (y1, y3) = t at *
    rw [wrap_id (n := t) (by omega) (by omega), wrap_id (by omega) (by omega)]
    omega
  · obtain rfl : y1 = S := by omega
    rw [thickV_FT c1 c2 c5 c6 hF (by omega)]
    exact (cnt_flow ffl c1 c5 N).symm
def smX : T Smf := (T.set smW 67 (some (gFd refThickS (.one (.int .i64)) refThickC refThickR)))
theorem smX_ok : Tab SmOk smX := (Tab.set smW_ok (by kernel_rfl) (smOk_of smW_ok gsW_ok refThick_ok rfl))
def refAllS : List PT := [.agg [.int .i64, .int .i64, .int .i64, .int .i64], .one (.list [.list [.int .i64]]), .one (.int .i64)]
def refAllC : List FD → Bool
  | [.int _ st, .int _ pl, .int _ ho, .int _ ge, .list _ nfl ffl, .int _ n] => decide (flowE st pl ho ge nfl ffl = 0) && decide (stepsE n = 0)
  | _ => false
def refAllR : List FD → List FD
  | [.int _ st, .int _ pl, .int _ ho, .int _ ge, .list _ _ ffl, .int _ n] => [.list [.list [.int .i64]] pl.toNat (fun z _ => thickRow st pl ho ge ffl n z)]
  | _ => []
def refAllI (st : Int) (pl : Int) (ho : Int) (ge : Int) (nfl : Nat) (ffl : Nat → Nat → FD) (n : Int) : Nat → AFam := fun i => match i with | 3 => ⟨Nat, fun z => [{ι := Nat, G := fun x => x = 0, μ := fun x => pl.toNat - x, tl := fun x => [(0, .agg [.int IntKind.i64 (.tm st), .int IntKind.i64 (.tm pl), .int IntKind.i64 (.tm ho), .int IntKind.i64 (.tm ge)]), (1, .one (.fz (.root 0 4) (FD.list [Sh.list [Sh.int IntKind.i64]] nfl ffl))), (2, .one (.int IntKind.i64 (.tm n))), (3, .one (.ptr (some (1, 0)))), (6, .one (.slice none 0 (.known 0))), (7, .one (.slice none 0 (.known 0))), (8, .one (.int IntKind.i64 (.tm (Int.ofNat x))))], bl := fun x => [(1, .cells 47 4 [.int IntKind.i64 (.tm st), .int IntKind.i64 (.tm pl), .int IntKind.i64 (.tm ho), .int IntKind.i64 (.tm ge)])], nx := (1 : Nat) + (1 : Nat)}, {ι := Nat, G := fun x => 1 ≤ x ∧ x ≤ pl.toNat, μ := fun x => pl.toNat - x, tl := fun x => [(0, .agg [.int IntKind.i64 (.tm st), .int IntKind.i64 (.tm pl), .int IntKind.i64 (.tm ho), .int IntKind.i64 (.tm ge)]), (1, .one (.fz (.root 0 4) (FD.list [Sh.list [Sh.int IntKind.i64]] nfl ffl))), (2, .one (.int IntKind.i64 (.tm n))), (3, .one (.ptr (some (1, 0)))), (6, .one (.slice none 0 (.known 0))), (7, .one (.own 2 x)), (8, .one (.int IntKind.i64 (.tm (Int.ofNat x))))], bl := fun x => [(1, .cells 47 4 [.int IntKind.i64 (.tm st), .int IntKind.i64 (.tm pl), .int IntKind.i64 (.tm ho), .int IntKind.i64 (.tm ge)]), (2, .row 22 [.list [.int .i64]] x (fun z _ => thickRow st pl ho ge ffl n z))], nx := 3}]⟩ | 7 => ⟨Nat, fun z => [{ι := Nat, G := fun x => (z = 0 ∧ z < pl.toNat) ∧ x = 0, μ := fun x => ho.toNat - x, tl := fun x => [(0, .agg [.int IntKind.i64 (.tm st), .int IntKind.i64 (.tm pl), .int IntKind.i64 (.tm ho), .int IntKind.i64 (.tm ge)]), (1, .one (.fz (.root 0 4) (FD.list [Sh.list [Sh.int IntKind.i64]] nfl ffl))), (2, .one (.int IntKind.i64 (.tm n))), (3, .one (.ptr (some (1, 0)))), (6, .one (.slice none 0 (.known 0))), (7, .one (.slice none 0 (.known 0))), (8, .one (.int IntKind.i64 (.tm (Int.ofNat z)))), (9, .one (.slice none 0 (.known 0))), (10, .one (.int IntKind.i64 (.tm (Int.ofNat x))))], bl := fun x => [(1, .cells 47 4 [.int IntKind.i64 (.tm st), .int IntKind.i64 (.tm pl), .int IntKind.i64 (.tm ho), .int IntKind.i64 (.tm ge)])], nx := (1 : Nat) + (1 : Nat)}, {ι := Nat, G := fun x => (z = 0 ∧ z < pl.toNat) ∧ (1 ≤ x ∧ x ≤ ho.toNat), μ := fun x => ho.toNat - x, tl := fun x => [(0, .agg [.int IntKind.i64 (.tm st), .int IntKind.i64 (.tm pl), .int IntKind.i64 (.tm ho), .int IntKind.i64 (.tm ge)]), (1, .one (.fz (.root 0 4) (FD.list [Sh.list [Sh.int IntKind.i64]] nfl ffl))), (2, .one (.int IntKind.i64 (.tm n))), (3, .one (.ptr (some (1, 0)))), (6, .one (.slice none 0 (.known 0))), (7, .one (.slice none 0 (.known 0))), (8, .one (.int IntKind.i64 (.tm (Int.ofNat z)))), (9, .one (.own 2 x)), (10, .one (.int IntKind.i64 (.tm (Int.ofNat x))))], bl := fun x => [(1, .cells 47 4 [.int IntKind.i64 (.tm st), .int IntKind.i64 (.tm pl), .int IntKind.i64 (.tm ho), .int IntKind.i64 (.tm ge)]), (2, .row 3 [.int .i64] x (fun k _ => .int .i64 (thickV st pl ho ge z k ffl n)))], nx := 3}, {ι := Nat, G := fun x => (1 ≤ z ∧ z < pl.toNat) ∧ x = 0, μ := fun x => ho.toNat - x, tl := fun x => [(0, .agg [.int IntKind.i64 (.tm st), .int IntKind.i64 (.tm pl), .int IntKind.i64 (.tm ho), .int IntKind.i64 (.tm ge)]), (1, .one (.fz (.root 0 4) (FD.list [Sh.list [Sh.int IntKind.i64]] nfl ffl))), (2, .one (.int IntKind.i64 (.tm n))), (3, .one (.ptr (some (1, 0)))), (6, .one (.slice none 0 (.known 0))), (7, .one (.own 2 z)), (8, .one (.int IntKind.i64 (.tm (Int.ofNat z)))), (9, .one (.slice none 0 (.known 0))), (10, .one (.int IntKind.i64 (.tm (Int.ofNat x))))], bl := fun x => [(1, .cells 47 4 [.int IntKind.i64 (.tm st), .int IntKind.i64 (.tm pl), .int IntKind.i64 (.tm ho), .int IntKind.i64 (.tm ge)]), (2, .row 22 [.list [.int .i64]] z (fun z _ => thickRow st pl ho ge ffl n z))], nx := 3}, {ι := Nat, G := fun x => (1 ≤ z ∧ z < pl.toNat) ∧ (1 ≤ x ∧ x ≤ ho.toNat), μ := fun x => ho.toNat - x, tl := fun x => [(0, .agg [.int IntKind.i64 (.tm st), .int IntKind.i64 (.tm pl), .int IntKind.i64 (.tm ho), .int IntKind.i64 (.tm ge)]), (1, .one (.fz (.root 0 4) (FD.list [Sh.list [Sh.int IntKind.i64]] nfl ffl))), (2, .one (.int IntKind.i64 (.tm n))), (3, .one (.ptr (some (1, 0)))), (6, .one (.slice none 0 (.known 0))), (7, .one (.own 2 z)), (8, .one (.int IntKind.i64 (.tm (Int.ofNat z)))), (9, .one (.own 3 x)), (10, .one (.int IntKind.i64 (.tm (Int.ofNat x))))], bl := fun x => [(1, .cells 47 4 [.int IntKind.i64 (.tm st), .int IntKind.i64 (.tm pl), .int IntKind.i64 (.tm ho), .int IntKind.i64 (.tm ge)]), (2, .row 22 [.list [.int .i64]] z (fun z _ => thickRow st pl ho ge ffl n z)), (3, .row 3 [.int .i64] x (fun k _ => .int .i64 (thickV st pl ho ge z k ffl n)))], nx := 4}]⟩ | _ => ⟨Nat, fun _ => []⟩
abbrev qrefAll1 (st : Int) (pl : Int) (ho : Int) (ge : Int) : Prop := ((((IntKind.i64) = (IntKind.i64)) ∧ ((st) = (st))) ∧ ((((IntKind.i64) = (IntKind.i64)) ∧ ((pl) = (pl))) ∧ ((((IntKind.i64) = (IntKind.i64)) ∧ ((ho) = (ho))) ∧ ((((IntKind.i64) = (IntKind.i64)) ∧ ((ge) = (ge))) ∧ True))))
abbrev qrefAll2 (nfl : Nat) (ffl : Nat → Nat → FD) : Prop := (((Ref.root (0) (4)) = (Ref.root (0) (4))) ∧ (((FD.list [Sh.list [Sh.int IntKind.i64]] nfl ffl) = (FD.list [Sh.list [Sh.int IntKind.i64]] nfl ffl)) ∧ (true = true)))
abbrev qrefAll3 (st : Int) (pl : Int) (ho : Int) (ge : Int) (ffl : Nat → Nat → FD) (n : Int) (y2 : Nat) (y3 : Nat) (y4 : Nat) : Prop := (((((3 : TypeId)) = ((3 : TypeId))) ∧ ((([Sh.int IntKind.i64]) = ([Sh.int IntKind.i64])) ∧ (((y4) = (y3 + (1 : Nat))) ∧ (∀ y5 : Nat, (y5 < y4 → (∀ y6 : Nat, (y6 < List.length [Sh.int IntKind.i64] → ((FD.int IntKind.i64 (thickV st pl ho ge (↑y2 : Int) (↑y5 : Int) ffl n)) = (bif Nat.blt y5 y3 then FD.int IntKind.i64 (thickV st pl ho ge (↑y2 : Int) (↑y5 : Int) ffl n) else atFD [FD.int IntKind.i64 (thickV st pl ho ge (Int.ofNat y2) (Int.ofNat y3) ffl n)] y6))))))))) ∧ True)
abbrev qrefAll6 (st : Int) (pl : Int) (ho : Int) (ge : Int) (ffl : Nat → Nat → FD) (n : Int) (y2 : Nat) (y3 : Nat) (y4 : Nat) : Prop := (((((3 : TypeId)) = ((3 : TypeId))) ∧ ((([Sh.int IntKind.i64]) = ([Sh.int IntKind.i64])) ∧ (((y4) = (1)) ∧ (∀ y5 : Nat, (y5 < y4 → (∀ y6 : Nat, (y6 < List.length [Sh.int IntKind.i64] → ((FD.int IntKind.i64 (thickV st pl ho ge (↑y2 : Int) (↑y5 : Int) ffl n)) = (atFD [FD.int IntKind.i64 (thickV st pl ho ge (Int.ofNat y2) (Int.ofNat y3) ffl n)] y6))))))))) ∧ True)
abbrev qrefAll7 (st : Int) (pl : Int) (ho : Int) (ge : Int) (nfl : Nat) (ffl : Nat → Nat → FD) (n : Int) (y1 : Nat) (y2 : Nat) : Prop := (∃ y4 : Nat, ((((y4) = (0)) ∧ Int.toNat pl - y4 < Int.toNat pl - y1) ∧ (((true = true) ∧ ((qrefAll1 st pl ho ge) ∧ ((qrefAll2 nfl ffl) ∧ ((((IntKind.i64) = (IntKind.i64)) ∧ ((n) = (n))) ∧ ((((1, 1) ∈ ([(1, 1)] : List (Nat × Nat))) ∧ ((0) = (0))) ∧ ((((0) = (0)) ∧ ((0) = (0))) ∧ (False ∧ ((((IntKind.i64) = (IntKind.i64)) ∧ ((Int.ofNat y4) = (IntKind.wrap IntKind.i64 (Int.ofNat y2 + (1 : Int))))) ∧ True)))))))) ∧ (((((47 : TypeId)) = ((47 : TypeId))) ∧ (((4) = (4)) ∧ (qrefAll1 st pl ho ge))) ∧ True))))
abbrev qrefAll8 (st : Int) (pl : Int) (ho : Int) (ge : Int) (nfl : Nat) (ffl : Nat → Nat → FD) (n : Int) (y2 : Nat) (y3 : Nat) : Prop := (((refThickC ([FD.int IntKind.i64 st, FD.int IntKind.i64 pl, FD.int IntKind.i64 ho, FD.int IntKind.i64 ge] ++ FD.list [Sh.list [Sh.int IntKind.i64]] nfl ffl :: ([FD.int IntKind.i64 (Int.ofNat y2), FD.int IntKind.i64 (Int.ofNat y3), FD.int IntKind.i64 n] ++ []))) = (false)) → False)
abbrev qrefAll9 (st : Int) (pl : Int) (ho : Int) (ge : Int) (nfl : Nat) (ffl : Nat → Nat → FD) (n : Int) (y2 : Nat) (y3 : Nat) : Prop := ((refThickC ([FD.int IntKind.i64 st, FD.int IntKind.i64 pl, FD.int IntKind.i64 ho, FD.int IntKind.i64 ge] ++ FD.list [Sh.list [Sh.int IntKind.i64]] nfl ffl :: ([FD.int IntKind.i64 (Int.ofNat y2), FD.int IntKind.i64 (Int.ofNat y3), FD.int IntKind.i64 n] ++ []))) = (true))
abbrev qrefAll11 (st : Int) (pl : Int) (ho : Int) (ge : Int) (ffl : Nat → Nat → FD) (n : Int) (y2 : Nat) : Prop := ((((22 : TypeId)) = ((22 : TypeId))) ∧ ((([Sh.list [Sh.int IntKind.i64]]) = ([Sh.list [Sh.int IntKind.i64]])) ∧ (((y2) = (y2)) ∧ (∀ y5 : Nat, (y5 < y2 → (∀ y6 : Nat, (y6 < List.length [Sh.list [Sh.int IntKind.i64]] → ((thickRow st pl ho ge ffl n y5) = (thickRow st pl ho ge ffl n y5)))))))))
abbrev qrefAll12 (y1 : Nat) (y2 : Nat) (y3 : Nat) : Prop := ((((IntKind.i64) = (IntKind.i64)) ∧ ((Int.ofNat y2) = (Int.ofNat y1))) ∧ ((((0) = (0)) ∧ ((0) = (0))) ∧ ((((IntKind.i64) = (IntKind.i64)) ∧ ((Int.ofNat y3) = ((0 : Int)))) ∧ True)))
abbrev qrefAll13 (st : Int) (pl : Int) (ho : Int) (ge : Int) (nfl : Nat) (ffl : Nat → Nat → FD) (n : Int) (y1 : Nat) (y2 : Nat) (y3 : Nat) : Prop := ((true = true) ∧ ((qrefAll1 st pl ho ge) ∧ ((qrefAll2 nfl ffl) ∧ ((((IntKind.i64) = (IntKind.i64)) ∧ ((n) = (n))) ∧ ((((1, 1) ∈ ([(1, 1)] : List (Nat × Nat))) ∧ ((0) = (0))) ∧ ((((0) = (0)) ∧ ((0) = (0))) ∧ (False ∧ ((((IntKind.i64) = (IntKind.i64)) ∧ ((Int.ofNat y2) = (Int.ofNat y1))) ∧ (False ∧ ((((IntKind.i64) = (IntKind.i64)) ∧ ((Int.ofNat y3) = ((0 : Int)))) ∧ True))))))))))
abbrev qrefAll14 (y2 : Nat) (y3 : Nat) (y4 : Nat) : Prop := ((((IntKind.i64) = (IntKind.i64)) ∧ ((Int.ofNat y2) = (Int.ofNat y2))) ∧ (False ∧ ((((IntKind.i64) = (IntKind.i64)) ∧ ((Int.ofNat y4) = (IntKind.wrap IntKind.i64 (Int.ofNat y3 + (1 : Int))))) ∧ True)))
abbrev qrefAll4 (st : Int) (pl : Int) (ho : Int) (ge : Int) (nfl : Nat) (ffl : Nat → Nat → FD) (n : Int) (y2 : Nat) (y3 : Nat) (y4 : Nat) : Prop := ((true = true) ∧ ((qrefAll1 st pl ho ge) ∧ ((qrefAll2 nfl ffl) ∧ ((((IntKind.i64) = (IntKind.i64)) ∧ ((n) = (n))) ∧ ((((1, 1) ∈ ([(1, 1)] : List (Nat × Nat))) ∧ ((0) = (0))) ∧ ((((0) = (0)) ∧ ((0) = (0))) ∧ (False ∧ (qrefAll14 y2 y3 y4))))))))
abbrev qrefAll5 (st : Int) (pl : Int) (ho : Int) (ge : Int) (nfl : Nat) (ffl : Nat → Nat → FD) (n : Int) (y2 : Nat) (y3 : Nat) : Prop := (∃ y4 : Nat, (((((1 : Nat) ≤ y2 ∧ y2 < Int.toNat pl) ∧ ((y4) = (0))) ∧ Int.toNat ho - y4 < Int.toNat ho - y3) ∧ (((true = true) ∧ ((qrefAll1 st pl ho ge) ∧ ((qrefAll2 nfl ffl) ∧ ((((IntKind.i64) = (IntKind.i64)) ∧ ((n) = (n))) ∧ ((((1, 1) ∈ ([(2, 2), (1, 1)] : List (Nat × Nat))) ∧ ((0) = (0))) ∧ ((((0) = (0)) ∧ ((0) = (0))) ∧ ((((2, 2) ∈ ([(2, 2), (1, 1)] : List (Nat × Nat))) ∧ ((y2) = (y2))) ∧ (qrefAll14 y2 y3 y4)))))))) ∧ (((((47 : TypeId)) = ((47 : TypeId))) ∧ (((4) = (4)) ∧ (qrefAll1 st pl ho ge))) ∧ ((qrefAll11 st pl ho ge ffl n y2) ∧ True)))))
abbrev qrefAll10 (st : Int) (pl : Int) (ho : Int) (ge : Int) (nfl : Nat) (ffl : Nat → Nat → FD) (n : Int) (y2 : Nat) (y3 : Nat) : Prop := (∃ y4 : Nat, ((((((y2) = (0)) ∧ y2 < Int.toNat pl) ∧ ((y4) = (0))) ∧ Int.toNat ho - y4 < Int.toNat ho - y3) ∧ (((true = true) ∧ ((qrefAll1 st pl ho ge) ∧ ((qrefAll2 nfl ffl) ∧ ((((IntKind.i64) = (IntKind.i64)) ∧ ((n) = (n))) ∧ ((((1, 1) ∈ ([(1, 1)] : List (Nat × Nat))) ∧ ((0) = (0))) ∧ ((((0) = (0)) ∧ ((0) = (0))) ∧ ((((0) = (0)) ∧ ((0) = (0))) ∧ (qrefAll14 y2 y3 y4)))))))) ∧ (((((47 : TypeId)) = ((47 : TypeId))) ∧ (((4) = (4)) ∧ (qrefAll1 st pl ho ge))) ∧ True))))
abbrev qrefAll0 (st : Int) (pl : Int) (ho : Int) (ge : Int) (nfl : Nat) (ffl : Nat → Nat → FD) (n : Int) (y1 : Nat) (y2 : Nat) : Prop := ((∀ y3 : Nat, (((((y2) = (0)) ∧ y2 < Int.toNat pl) ∧ ((y3) = (0))) → ((((decide (Int.ofNat y3 < ho)) = (true)) → (((qrefAll9 st pl ho ge nfl ffl n y2 y3) → (((true = true) → ((qrefAll10 st pl ho ge nfl ffl n y2 y3) ∨ ((∃ y4 : Nat, ((((((y2) = (0)) ∧ y2 < Int.toNat pl) ∧ ((1 : Nat) ≤ y4 ∧ y4 ≤ Int.toNat ho)) ∧ Int.toNat ho - y4 < Int.toNat ho - y3) ∧ (((true = true) ∧ ((qrefAll1 st pl ho ge) ∧ ((qrefAll2 nfl ffl) ∧ ((((IntKind.i64) = (IntKind.i64)) ∧ ((n) = (n))) ∧ ((((1, 1) ∈ ([(2, 3), (1, 1)] : List (Nat × Nat))) ∧ ((0) = (0))) ∧ ((((0) = (0)) ∧ ((0) = (0))) ∧ ((((0) = (0)) ∧ ((0) = (0))) ∧ ((((IntKind.i64) = (IntKind.i64)) ∧ ((Int.ofNat y2) = (Int.ofNat y2))) ∧ ((((2, 3) ∈ ([(2, 3), (1, 1)] : List (Nat × Nat))) ∧ ((y4) = (1))) ∧ ((((IntKind.i64) = (IntKind.i64)) ∧ ((Int.ofNat y4) = (IntKind.wrap IntKind.i64 (Int.ofNat y3 + (1 : Int))))) ∧ True)))))))))) ∧ (((((47 : TypeId)) = ((47 : TypeId))) ∧ (((4) = (4)) ∧ (qrefAll1 st pl ho ge))) ∧ (qrefAll6 st pl ho ge ffl n y2 y3 y4))))) ∨ ((∃ y4 : Nat, (((((1 : Nat) ≤ y2 ∧ y2 < Int.toNat pl) ∧ ((y4) = (0))) ∧ Int.toNat ho - y4 < Int.toNat ho - y3) ∧ ((qrefAll4 st pl ho ge nfl ffl n y2 y3 y4) ∧ (((((47 : TypeId)) = ((47 : TypeId))) ∧ (((4) = (4)) ∧ (qrefAll1 st pl ho ge))) ∧ (False ∧ True))))) ∨ (∃ y4 : Nat, (((((1 : Nat) ≤ y2 ∧ y2 < Int.toNat pl) ∧ ((1 : Nat) ≤ y4 ∧ y4 ≤ Int.toNat ho)) ∧ Int.toNat ho - y4 < Int.toNat ho - y3) ∧ (((true = true) ∧ ((qrefAll1 st pl ho ge) ∧ ((qrefAll2 nfl ffl) ∧ ((((IntKind.i64) = (IntKind.i64)) ∧ ((n) = (n))) ∧ ((((1, 1) ∈ ([(3, 3), (1, 1)] : List (Nat × Nat))) ∧ ((0) = (0))) ∧ ((((0) = (0)) ∧ ((0) = (0))) ∧ (False ∧ ((((IntKind.i64) = (IntKind.i64)) ∧ ((Int.ofNat y2) = (Int.ofNat y2))) ∧ ((((3, 3) ∈ ([(3, 3), (1, 1)] : List (Nat × Nat))) ∧ ((y4) = (1))) ∧ ((((IntKind.i64) = (IntKind.i64)) ∧ ((Int.ofNat y4) = (IntKind.wrap IntKind.i64 (Int.ofNat y3 + (1 : Int))))) ∧ True)))))))))) ∧ (((((47 : TypeId)) = ((47 : TypeId))) ∧ (((4) = (4)) ∧ (qrefAll1 st pl ho ge))) ∧ (False ∧ (qrefAll6 st pl ho ge ffl n y2 y3 y4)))))))))) ∧ ((true = false) → False))) ∧ (qrefAll8 st pl ho ge nfl ffl n y2 y3))) ∧ (((decide (Int.ofNat y3 < ho)) = (false)) → ((qrefAll7 st pl ho ge nfl ffl n y1 y2) ∨ (∃ y4 : Nat, ((((1 : Nat) ≤ y4 ∧ y4 ≤ Int.toNat pl) ∧ Int.toNat pl - y4 < Int.toNat pl - y1) ∧ (((true = true) ∧ ((qrefAll1 st pl ho ge) ∧ ((qrefAll2 nfl ffl) ∧ ((((IntKind.i64) = (IntKind.i64)) ∧ ((n) = (n))) ∧ ((((1, 1) ∈ ([(2, 3), (1, 1)] : List (Nat × Nat))) ∧ ((0) = (0))) ∧ ((((0) = (0)) ∧ ((0) = (0))) ∧ ((((2, 3) ∈ ([(2, 3), (1, 1)] : List (Nat × Nat))) ∧ ((y4) = (1))) ∧ ((((IntKind.i64) = (IntKind.i64)) ∧ ((Int.ofNat y4) = (IntKind.wrap IntKind.i64 (Int.ofNat y2 + (1 : Int))))) ∧ True)))))))) ∧ (((((47 : TypeId)) = ((47 : TypeId))) ∧ (((4) = (4)) ∧ (qrefAll1 st pl ho ge))) ∧ (False ∧ True)))))))))) ∧ ((∀ y3 : Nat, (((((y2) = (0)) ∧ y2 < Int.toNat pl) ∧ ((1 : Nat) ≤ y3 ∧ y3 ≤ Int.toNat ho)) → ((((decide (Int.ofNat y3 < ho)) = (true)) → (((qrefAll9 st pl ho ge nfl ffl n y2 y3) → ((((Nat.beq y3 y3 && (true && Nat.ble (y3 + (1 : Nat)) (1000000 : Nat))) = (true)) → ((qrefAll10 st pl ho ge nfl ffl n y2 y3) ∨ ((∃ y4 : Nat, ((((((y2) = (0)) ∧ y2 < Int.toNat pl) ∧ ((1 : Nat) ≤ y4 ∧ y4 ≤ Int.toNat ho)) ∧ Int.toNat ho - y4 < Int.toNat ho - y3) ∧ (((true = true) ∧ ((qrefAll1 st pl ho ge) ∧ ((qrefAll2 nfl ffl) ∧ ((((IntKind.i64) = (IntKind.i64)) ∧ ((n) = (n))) ∧ ((((1, 1) ∈ ([(2, 4), (1, 1)] : List (Nat × Nat))) ∧ ((0) = (0))) ∧ ((((0) = (0)) ∧ ((0) = (0))) ∧ ((((0) = (0)) ∧ ((0) = (0))) ∧ ((((IntKind.i64) = (IntKind.i64)) ∧ ((Int.ofNat y2) = (Int.ofNat y2))) ∧ ((((2, 4) ∈ ([(2, 4), (1, 1)] : List (Nat × Nat))) ∧ ((y4) = (y3 + (1 : Nat)))) ∧ ((((IntKind.i64) = (IntKind.i64)) ∧ ((Int.ofNat y4) = (IntKind.wrap IntKind.i64 (Int.ofNat y3 + (1 : Int))))) ∧ True)))))))))) ∧ (((((47 : TypeId)) = ((47 : TypeId))) ∧ (((4) = (4)) ∧ (qrefAll1 st pl ho ge))) ∧ (qrefAll3 st pl ho ge ffl n y2 y3 y4))))) ∨ ((∃ y4 : Nat, (((((1 : Nat) ≤ y2 ∧ y2 < Int.toNat pl) ∧ ((y4) = (0))) ∧ Int.toNat ho - y4 < Int.toNat ho - y3) ∧ ((qrefAll4 st pl ho ge nfl ffl n y2 y3 y4) ∧ (((((47 : TypeId)) = ((47 : TypeId))) ∧ (((4) = (4)) ∧ (qrefAll1 st pl ho ge))) ∧ (False ∧ True))))) ∨ (∃ y4 : Nat, (((((1 : Nat) ≤ y2 ∧ y2 < Int.toNat pl) ∧ ((1 : Nat) ≤ y4 ∧ y4 ≤ Int.toNat ho)) ∧ Int.toNat ho - y4 < Int.toNat ho - y3) ∧ (((true = true) ∧ ((qrefAll1 st pl ho ge) ∧ ((qrefAll2 nfl ffl) ∧ ((((IntKind.i64) = (IntKind.i64)) ∧ ((n) = (n))) ∧ ((((1, 1) ∈ ([(3, 4), (1, 1)] : List (Nat × Nat))) ∧ ((0) = (0))) ∧ ((((0) = (0)) ∧ ((0) = (0))) ∧ (False ∧ ((((IntKind.i64) = (IntKind.i64)) ∧ ((Int.ofNat y2) = (Int.ofNat y2))) ∧ ((((3, 4) ∈ ([(3, 4), (1, 1)] : List (Nat × Nat))) ∧ ((y4) = (y3 + (1 : Nat)))) ∧ ((((IntKind.i64) = (IntKind.i64)) ∧ ((Int.ofNat y4) = (IntKind.wrap IntKind.i64 (Int.ofNat y3 + (1 : Int))))) ∧ True)))))))))) ∧ (((((47 : TypeId)) = ((47 : TypeId))) ∧ (((4) = (4)) ∧ (qrefAll1 st pl ho ge))) ∧ (False ∧ (qrefAll3 st pl ho ge ffl n y2 y3 y4)))))))))) ∧ (((Nat.beq y3 y3 && (true && Nat.ble (y3 + (1 : Nat)) (1000000 : Nat))) = (false)) → False))) ∧ (qrefAll8 st pl ho ge nfl ffl n y2 y3))) ∧ (((decide (Int.ofNat y3 < ho)) = (false)) → ((((true && (Nat.beq y3 y3 && Nat.ble ((0 : Nat) + (1 : Nat)) (1000000 : Nat))) = (true)) → ((qrefAll7 st pl ho ge nfl ffl n y1 y2) ∨ (∃ y4 : Nat, ((((1 : Nat) ≤ y4 ∧ y4 ≤ Int.toNat pl) ∧ Int.toNat pl - y4 < Int.toNat pl - y1) ∧ (((true = true) ∧ ((qrefAll1 st pl ho ge) ∧ ((qrefAll2 nfl ffl) ∧ ((((IntKind.i64) = (IntKind.i64)) ∧ ((n) = (n))) ∧ ((((1, 1) ∈ ([(2, 4), (1, 1)] : List (Nat × Nat))) ∧ ((0) = (0))) ∧ ((((0) = (0)) ∧ ((0) = (0))) ∧ ((((2, 4) ∈ ([(2, 4), (1, 1)] : List (Nat × Nat))) ∧ ((y4) = (1))) ∧ ((((IntKind.i64) = (IntKind.i64)) ∧ ((Int.ofNat y4) = (IntKind.wrap IntKind.i64 (Int.ofNat y2 + (1 : Int))))) ∧ True)))))))) ∧ (((((47 : TypeId)) = ((47 : TypeId))) ∧ (((4) = (4)) ∧ (qrefAll1 st pl ho ge))) ∧ (((((22 : TypeId)) = ((22 : TypeId))) ∧ ((([Sh.list [Sh.int IntKind.i64]]) = ([Sh.list [Sh.int IntKind.i64]])) ∧ (((y4) = (1)) ∧ (∀ y5 : Nat, (y5 < y4 → (∀ y6 : Nat, (y6 < List.length [Sh.list [Sh.int IntKind.i64]] → ((thickRow st pl ho ge ffl n y5) = (FD.list [Sh.int IntKind.i64] y3 fun (k x : Nat) => FD.int IntKind.i64 (thickV st pl ho ge (↑y2 : Int) (↑k : Int) ffl n)))))))))) ∧ True))))))) ∧ (((true && (Nat.beq y3 y3 && Nat.ble ((0 : Nat) + (1 : Nat)) (1000000 : Nat))) = (false)) → False)))))) ∧ ((∀ y3 : Nat, ((((1 : Nat) ≤ y2 ∧ y2 < Int.toNat pl) ∧ ((y3) = (0))) → ((((decide (Int.ofNat y3 < ho)) = (true)) → (((qrefAll9 st pl ho ge nfl ffl n y2 y3) → (((true = true) → ((∃ y4 : Nat, ((((((y2) = (0)) ∧ y2 < Int.toNat pl) ∧ ((y4) = (0))) ∧ Int.toNat ho - y4 < Int.toNat ho - y3) ∧ ((qrefAll4 st pl ho ge nfl ffl n y2 y3 y4) ∧ (((((47 : TypeId)) = ((47 : TypeId))) ∧ (((4) = (4)) ∧ (qrefAll1 st pl ho ge))) ∧ True)))) ∨ ((∃ y4 : Nat, ((((((y2) = (0)) ∧ y2 < Int.toNat pl) ∧ ((1 : Nat) ≤ y4 ∧ y4 ≤ Int.toNat ho)) ∧ Int.toNat ho - y4 < Int.toNat ho - y3) ∧ (((true = true) ∧ ((qrefAll1 st pl ho ge) ∧ ((qrefAll2 nfl ffl) ∧ ((((IntKind.i64) = (IntKind.i64)) ∧ ((n) = (n))) ∧ ((((1, 1) ∈ ([(2, 4), (1, 1)] : List (Nat × Nat))) ∧ ((0) = (0))) ∧ ((((0) = (0)) ∧ ((0) = (0))) ∧ (False ∧ ((((IntKind.i64) = (IntKind.i64)) ∧ ((Int.ofNat y2) = (Int.ofNat y2))) ∧ ((((2, 4) ∈ ([(2, 4), (1, 1)] : List (Nat × Nat))) ∧ ((y4) = (1))) ∧ ((((IntKind.i64) = (IntKind.i64)) ∧ ((Int.ofNat y4) = (IntKind.wrap IntKind.i64 (Int.ofNat y3 + (1 : Int))))) ∧ True)))))))))) ∧ (((((47 : TypeId)) = ((47 : TypeId))) ∧ (((4) = (4)) ∧ (qrefAll1 st pl ho ge))) ∧ (qrefAll6 st pl ho ge ffl n y2 y3 y4))))) ∨ ((qrefAll5 st pl ho ge nfl ffl n y2 y3) ∨ (∃ y4 : Nat, (((((1 : Nat) ≤ y2 ∧ y2 < Int.toNat pl) ∧ ((1 : Nat) ≤ y4 ∧ y4 ≤ Int.toNat ho)) ∧ Int.toNat ho - y4 < Int.toNat ho - y3) ∧ (((true = true) ∧ ((qrefAll1 st pl ho ge) ∧ ((qrefAll2 nfl ffl) ∧ ((((IntKind.i64) = (IntKind.i64)) ∧ ((n) = (n))) ∧ ((((1, 1) ∈ ([(3, 4), (2, 2), (1, 1)] : List (Nat × Nat))) ∧ ((0) = (0))) ∧ ((((0) = (0)) ∧ ((0) = (0))) ∧ ((((2, 2) ∈ ([(3, 4), (2, 2), (1, 1)] : List (Nat × Nat))) ∧ ((y2) = (y2))) ∧ ((((IntKind.i64) = (IntKind.i64)) ∧ ((Int.ofNat y2) = (Int.ofNat y2))) ∧ ((((3, 4) ∈ ([(3, 4), (2, 2), (1, 1)] : List (Nat × Nat))) ∧ ((y4) = (1))) ∧ ((((IntKind.i64) = (IntKind.i64)) ∧ ((Int.ofNat y4) = (IntKind.wrap IntKind.i64 (Int.ofNat y3 + (1 : Int))))) ∧ True)))))))))) ∧ (((((47 : TypeId)) = ((47 : TypeId))) ∧ (((4) = (4)) ∧ (qrefAll1 st pl ho ge))) ∧ ((qrefAll11 st pl ho ge ffl n y2) ∧ (qrefAll6 st pl ho ge ffl n y2 y3 y4)))))))))) ∧ ((true = false) → False))) ∧ (qrefAll8 st pl ho ge nfl ffl n y2 y3))) ∧ (((decide (Int.ofNat y3 < ho)) = (false)) → False)))) ∧ (∀ y3 : Nat, ((((1 : Nat) ≤ y2 ∧ y2 < Int.toNat pl) ∧ ((1 : Nat) ≤ y3 ∧ y3 ≤ Int.toNat ho)) → ((((decide (Int.ofNat y3 < ho)) = (true)) → (((qrefAll9 st pl ho ge nfl ffl n y2 y3) → ((((Nat.beq y3 y3 && (true && Nat.ble (y3 + (1 : Nat)) (1000000 : Nat))) = (true)) → ((∃ y4 : Nat, ((((((y2) = (0)) ∧ y2 < Int.toNat pl) ∧ ((y4) = (0))) ∧ Int.toNat ho - y4 < Int.toNat ho - y3) ∧ ((qrefAll4 st pl ho ge nfl ffl n y2 y3 y4) ∧ (((((47 : TypeId)) = ((47 : TypeId))) ∧ (((4) = (4)) ∧ (qrefAll1 st pl ho ge))) ∧ True)))) ∨ ((∃ y4 : Nat, ((((((y2) = (0)) ∧ y2 < Int.toNat pl) ∧ ((1 : Nat) ≤ y4 ∧ y4 ≤ Int.toNat ho)) ∧ Int.toNat ho - y4 < Int.toNat ho - y3) ∧ (((true = true) ∧ ((qrefAll1 st pl ho ge) ∧ ((qrefAll2 nfl ffl) ∧ ((((IntKind.i64) = (IntKind.i64)) ∧ ((n) = (n))) ∧ ((((1, 1) ∈ ([(2, 5), (1, 1)] : List (Nat × Nat))) ∧ ((0) = (0))) ∧ ((((0) = (0)) ∧ ((0) = (0))) ∧ (False ∧ ((((IntKind.i64) = (IntKind.i64)) ∧ ((Int.ofNat y2) = (Int.ofNat y2))) ∧ ((((2, 5) ∈ ([(2, 5), (1, 1)] : List (Nat × Nat))) ∧ ((y4) = (y3 + (1 : Nat)))) ∧ ((((IntKind.i64) = (IntKind.i64)) ∧ ((Int.ofNat y4) = (IntKind.wrap IntKind.i64 (Int.ofNat y3 + (1 : Int))))) ∧ True)))))))))) ∧ (((((47 : TypeId)) = ((47 : TypeId))) ∧ (((4) = (4)) ∧ (qrefAll1 st pl ho ge))) ∧ (qrefAll3 st pl ho ge ffl n y2 y3 y4))))) ∨ ((qrefAll5 st pl ho ge nfl ffl n y2 y3) ∨ (∃ y4 : Nat, (((((1 : Nat) ≤ y2 ∧ y2 < Int.toNat pl) ∧ ((1 : Nat) ≤ y4 ∧ y4 ≤ Int.toNat ho)) ∧ Int.toNat ho - y4 < Int.toNat ho - y3) ∧ (((true = true) ∧ ((qrefAll1 st pl ho ge) ∧ ((qrefAll2 nfl ffl) ∧ ((((IntKind.i64) = (IntKind.i64)) ∧ ((n) = (n))) ∧ ((((1, 1) ∈ ([(3, 5), (2, 2), (1, 1)] : List (Nat × Nat))) ∧ ((0) = (0))) ∧ ((((0) = (0)) ∧ ((0) = (0))) ∧ ((((2, 2) ∈ ([(3, 5), (2, 2), (1, 1)] : List (Nat × Nat))) ∧ ((y2) = (y2))) ∧ ((((IntKind.i64) = (IntKind.i64)) ∧ ((Int.ofNat y2) = (Int.ofNat y2))) ∧ ((((3, 5) ∈ ([(3, 5), (2, 2), (1, 1)] : List (Nat × Nat))) ∧ ((y4) = (y3 + (1 : Nat)))) ∧ ((((IntKind.i64) = (IntKind.i64)) ∧ ((Int.ofNat y4) = (IntKind.wrap IntKind.i64 (Int.ofNat y3 + (1 : Int))))) ∧ True)))))))))) ∧ (((((47 : TypeId)) = ((47 : TypeId))) ∧ (((4) = (4)) ∧ (qrefAll1 st pl ho ge))) ∧ ((qrefAll11 st pl ho ge ffl n y2) ∧ (qrefAll3 st pl ho ge ffl n y2 y3 y4)))))))))) ∧ (((Nat.beq y3 y3 && (true && Nat.ble (y3 + (1 : Nat)) (1000000 : Nat))) = (false)) → False))) ∧ (qrefAll8 st pl ho ge nfl ffl n y2 y3))) ∧ (((decide (Int.ofNat y3 < ho)) = (false)) → ((((Nat.beq y2 y2 && (Nat.beq y3 y3 && Nat.ble (y2 + (1 : Nat)) (1000000 : Nat))) = (true)) → ((qrefAll7 st pl ho ge nfl ffl n y1 y2) ∨ (∃ y4 : Nat, ((((1 : Nat) ≤ y4 ∧ y4 ≤ Int.toNat pl) ∧ Int.toNat pl - y4 < Int.toNat pl - y1) ∧ (((true = true) ∧ ((qrefAll1 st pl ho ge) ∧ ((qrefAll2 nfl ffl) ∧ ((((IntKind.i64) = (IntKind.i64)) ∧ ((n) = (n))) ∧ ((((1, 1) ∈ ([(2, 5), (1, 1)] : List (Nat × Nat))) ∧ ((0) = (0))) ∧ ((((0) = (0)) ∧ ((0) = (0))) ∧ ((((2, 5) ∈ ([(2, 5), (1, 1)] : List (Nat × Nat))) ∧ ((y4) = (y2 + (1 : Nat)))) ∧ ((((IntKind.i64) = (IntKind.i64)) ∧ ((Int.ofNat y4) = (IntKind.wrap IntKind.i64 (Int.ofNat y2 + (1 : Int))))) ∧ True)))))))) ∧ (((((47 : TypeId)) = ((47 : TypeId))) ∧ (((4) = (4)) ∧ (qrefAll1 st pl ho ge))) ∧ (((((22 : TypeId)) = ((22 : TypeId))) ∧ ((([Sh.list [Sh.int IntKind.i64]]) = ([Sh.list [Sh.int IntKind.i64]])) ∧ (((y4) = (y2 + (1 : Nat))) ∧ (∀ y5 : Nat, (y5 < y4 → (∀ y6 : Nat, (y6 < List.length [Sh.list [Sh.int IntKind.i64]] → ((thickRow st pl ho ge ffl n y5) = (bif Nat.blt y5 y2 then thickRow st pl ho ge ffl n y5 else FD.list [Sh.int IntKind.i64] y3 fun (k x : Nat) => FD.int IntKind.i64 (thickV st pl ho ge (↑y2 : Int) (↑k : Int) ffl n)))))))))) ∧ True))))))) ∧ (((Nat.beq y2 y2 && (Nat.beq y3 y3 && Nat.ble (y2 + (1 : Nat)) (1000000 : Nat))) = (false)) → False)))))))))
theorem refAll_ok : FnOk (mkR smX gsW) Try.prog η0 66 (FI.of Try.f66 false) refAllS (.one (.list [.list [.int .i64]])) refAllC refAllR := by
  refine fnOk_of0 smX_ok gsW_ok Try.fok66 (fun fds => match fds with | [.int _ st, .int _ pl, .int _ ho, .int _ ge, .list _ nfl ffl, .int _ n] => refAllI st pl ho ge nfl ffl n | _ => alts fun _ => []) ?_
  intro fds hf hc
  obtain ⟨st, ds0, rfl, hf1⟩ := hf.int
  obtain ⟨pl, ds1, rfl, hf2⟩ := hf1.int
  obtain ⟨ho, ds2, rfl, hf3⟩ := hf2.int
  obtain ⟨ge, ds3, rfl, hf4⟩ := hf3.int
  obtain ⟨nfl, ffl, ds4, rfl, gfl, hf5⟩ := hf4.list
  obtain ⟨n, ds5, rfl, hf6⟩ := hf5.int
  obtain rfl := hf6.nil
  have hc : (decide (flowE st pl ho ge nfl ffl = 0) && decide (stepsE n = 0)) = true := hc
  have hvc : (vcF smX gsW (FI.of Try.f66 false) refAllS (.one (.list [.list [.int .i64]])) (refAllI st pl ho ge nfl ffl n) noR [.int .i64 st, .int .i64 pl, .int .i64 ho, .int .i64 ge, .list [.list [.int .i64]] nfl ffl, .int .i64 n] (refAllR [.int .i64 st, .int .i64 pl, .int .i64 ho, .int .i64 ge, .list [.list [.int .i64]] nfl ffl, .int .i64 n])) =
    ((true = true) ∧ (∃ y0 : Nat, (((∃ y1 : Nat, ((((y1) = (0)) ∧ True) ∧ (((true = true) ∧ ((qrefAll1 st pl ho ge) ∧ ((qrefAll2 nfl ffl) ∧ ((((IntKind.i64) = (IntKind.i64)) ∧ ((n) = (n))) ∧ ((((1, 1) ∈ ([(1, 1)] : List (Nat × Nat))) ∧ ((0) = (0))) ∧ ((((0) = (0)) ∧ ((0) = (0))) ∧ ((((0) = (0)) ∧ ((0) = (0))) ∧ ((((IntKind.i64) = (IntKind.i64)) ∧ ((Int.ofNat y1) = ((0 : Int)))) ∧ True)))))))) ∧ (((((47 : TypeId)) = ((47 : Nat))) ∧ (((4) = (4)) ∧ (qrefAll1 st pl ho ge))) ∧ True)))) ∨ (∃ y1 : Nat, ((((1 : Nat) ≤ y1 ∧ y1 ≤ Int.toNat pl) ∧ True) ∧ (((true = true) ∧ ((qrefAll1 st pl ho ge) ∧ ((qrefAll2 nfl ffl) ∧ ((((IntKind.i64) = (IntKind.i64)) ∧ ((n) = (n))) ∧ ((((1, 1) ∈ ([(1, 1)] : List (Nat × Nat))) ∧ ((0) = (0))) ∧ ((((0) = (0)) ∧ ((0) = (0))) ∧ (False ∧ ((((IntKind.i64) = (IntKind.i64)) ∧ ((Int.ofNat y1) = ((0 : Int)))) ∧ True)))))))) ∧ (((((47 : TypeId)) = ((47 : Nat))) ∧ (((4) = (4)) ∧ (qrefAll1 st pl ho ge))) ∧ (False ∧ True)))))) ∧ ((∀ y1 : Nat, (((y1) = (0)) → ((((decide (Int.ofNat y1 < pl)) = (true)) → (∃ y2 : Nat, (((∃ y3 : Nat, ((((((y2) = (0)) ∧ y2 < Int.toNat pl) ∧ ((y3) = (0))) ∧ True) ∧ (((true = true) ∧ ((qrefAll1 st pl ho ge) ∧ ((qrefAll2 nfl ffl) ∧ ((((IntKind.i64) = (IntKind.i64)) ∧ ((n) = (n))) ∧ ((((1, 1) ∈ ([(1, 1)] : List (Nat × Nat))) ∧ ((0) = (0))) ∧ ((((0) = (0)) ∧ ((0) = (0))) ∧ ((((0) = (0)) ∧ ((0) = (0))) ∧ (qrefAll12 y1 y2 y3)))))))) ∧ (((((47 : TypeId)) = ((47 : TypeId))) ∧ (((4) = (4)) ∧ (qrefAll1 st pl ho ge))) ∧ True)))) ∨ ((∃ y3 : Nat, ((((((y2) = (0)) ∧ y2 < Int.toNat pl) ∧ ((1 : Nat) ≤ y3 ∧ y3 ≤ Int.toNat ho)) ∧ True) ∧ (((true = true) ∧ ((qrefAll1 st pl ho ge) ∧ ((qrefAll2 nfl ffl) ∧ ((((IntKind.i64) = (IntKind.i64)) ∧ ((n) = (n))) ∧ ((((1, 1) ∈ ([(1, 1)] : List (Nat × Nat))) ∧ ((0) = (0))) ∧ ((((0) = (0)) ∧ ((0) = (0))) ∧ ((((0) = (0)) ∧ ((0) = (0))) ∧ ((((IntKind.i64) = (IntKind.i64)) ∧ ((Int.ofNat y2) = (Int.ofNat y1))) ∧ (False ∧ ((((IntKind.i64) = (IntKind.i64)) ∧ ((Int.ofNat y3) = ((0 : Int)))) ∧ True)))))))))) ∧ (((((47 : TypeId)) = ((47 : TypeId))) ∧ (((4) = (4)) ∧ (qrefAll1 st pl ho ge))) ∧ (False ∧ True))))) ∨ ((∃ y3 : Nat, (((((1 : Nat) ≤ y2 ∧ y2 < Int.toNat pl) ∧ ((y3) = (0))) ∧ True) ∧ (((true = true) ∧ ((qrefAll1 st pl ho ge) ∧ ((qrefAll2 nfl ffl) ∧ ((((IntKind.i64) = (IntKind.i64)) ∧ ((n) = (n))) ∧ ((((1, 1) ∈ ([(1, 1)] : List (Nat × Nat))) ∧ ((0) = (0))) ∧ ((((0) = (0)) ∧ ((0) = (0))) ∧ (False ∧ (qrefAll12 y1 y2 y3)))))))) ∧ (((((47 : TypeId)) = ((47 : TypeId))) ∧ (((4) = (4)) ∧ (qrefAll1 st pl ho ge))) ∧ (False ∧ True))))) ∨ (∃ y3 : Nat, (((((1 : Nat) ≤ y2 ∧ y2 < Int.toNat pl) ∧ ((1 : Nat) ≤ y3 ∧ y3 ≤ Int.toNat ho)) ∧ True) ∧ ((qrefAll13 st pl ho ge nfl ffl n y1 y2 y3) ∧ (((((47 : TypeId)) = ((47 : TypeId))) ∧ (((4) = (4)) ∧ (qrefAll1 st pl ho ge))) ∧ (False ∧ (False ∧ True))))))))) ∧ (qrefAll0 st pl ho ge nfl ffl n y1 y2)))) ∧ (((decide (Int.ofNat y1 < pl)) = (false)) → ((Int.toNat pl) = (0)))))) ∧ (∀ y1 : Nat, (((1 : Nat) ≤ y1 ∧ y1 ≤ Int.toNat pl) → ((((decide (Int.ofNat y1 < pl)) = (true)) → (∃ y2 : Nat, (((∃ y3 : Nat, ((((((y2) = (0)) ∧ y2 < Int.toNat pl) ∧ ((y3) = (0))) ∧ True) ∧ (((true = true) ∧ ((qrefAll1 st pl ho ge) ∧ ((qrefAll2 nfl ffl) ∧ ((((IntKind.i64) = (IntKind.i64)) ∧ ((n) = (n))) ∧ ((((1, 1) ∈ ([(1, 1)] : List (Nat × Nat))) ∧ ((0) = (0))) ∧ ((((0) = (0)) ∧ ((0) = (0))) ∧ (False ∧ (qrefAll12 y1 y2 y3)))))))) ∧ (((((47 : TypeId)) = ((47 : TypeId))) ∧ (((4) = (4)) ∧ (qrefAll1 st pl ho ge))) ∧ True)))) ∨ ((∃ y3 : Nat, ((((((y2) = (0)) ∧ y2 < Int.toNat pl) ∧ ((1 : Nat) ≤ y3 ∧ y3 ≤ Int.toNat ho)) ∧ True) ∧ ((qrefAll13 st pl ho ge nfl ffl n y1 y2 y3) ∧ (((((47 : TypeId)) = ((47 : TypeId))) ∧ (((4) = (4)) ∧ (qrefAll1 st pl ho ge))) ∧ (False ∧ True))))) ∨ ((∃ y3 : Nat, (((((1 : Nat) ≤ y2 ∧ y2 < Int.toNat pl) ∧ ((y3) = (0))) ∧ True) ∧ (((true = true) ∧ ((qrefAll1 st pl ho ge) ∧ ((qrefAll2 nfl ffl) ∧ ((((IntKind.i64) = (IntKind.i64)) ∧ ((n) = (n))) ∧ ((((1, 1) ∈ ([(2, 2), (1, 1)] : List (Nat × Nat))) ∧ ((0) = (0))) ∧ ((((0) = (0)) ∧ ((0) = (0))) ∧ ((((2, 2) ∈ ([(2, 2), (1, 1)] : List (Nat × Nat))) ∧ ((y2) = (y1))) ∧ (qrefAll12 y1 y2 y3)))))))) ∧ (((((47 : TypeId)) = ((47 : TypeId))) ∧ (((4) = (4)) ∧ (qrefAll1 st pl ho ge))) ∧ (((((22 : TypeId)) = ((22 : TypeId))) ∧ ((([Sh.list [Sh.int IntKind.i64]]) = ([Sh.list [Sh.int IntKind.i64]])) ∧ (((y2) = (y1)) ∧ (∀ y4 : Nat, (y4 < y2 → (∀ y5 : Nat, (y5 < List.length [Sh.list [Sh.int IntKind.i64]] → ((thickRow st pl ho ge ffl n y4) = (thickRow st pl ho ge ffl n y4))))))))) ∧ True))))) ∨ (∃ y3 : Nat, (((((1 : Nat) ≤ y2 ∧ y2 < Int.toNat pl) ∧ ((1 : Nat) ≤ y3 ∧ y3 ≤ Int.toNat ho)) ∧ True) ∧ (((true = true) ∧ ((qrefAll1 st pl ho ge) ∧ ((qrefAll2 nfl ffl) ∧ ((((IntKind.i64) = (IntKind.i64)) ∧ ((n) = (n))) ∧ ((((1, 1) ∈ ([(2, 2), (1, 1)] : List (Nat × Nat))) ∧ ((0) = (0))) ∧ ((((0) = (0)) ∧ ((0) = (0))) ∧ ((((2, 2) ∈ ([(2, 2), (1, 1)] : List (Nat × Nat))) ∧ ((y2) = (y1))) ∧ ((((IntKind.i64) = (IntKind.i64)) ∧ ((Int.ofNat y2) = (Int.ofNat y1))) ∧ (False ∧ ((((IntKind.i64) = (IntKind.i64)) ∧ ((Int.ofNat y3) = ((0 : Int)))) ∧ True)))))))))) ∧ (((((47 : TypeId)) = ((47 : TypeId))) ∧ (((4) = (4)) ∧ (qrefAll1 st pl ho ge))) ∧ (((((22 : TypeId)) = ((22 : TypeId))) ∧ ((([Sh.list [Sh.int IntKind.i64]]) = ([Sh.list [Sh.int IntKind.i64]])) ∧ (((y2) = (y1)) ∧ (∀ y4 : Nat, (y4 < y2 → (∀ y5 : Nat, (y5 < List.length [Sh.list [Sh.int IntKind.i64]] → ((thickRow st pl ho ge ffl n y4) = (thickRow st pl ho ge ffl n y4))))))))) ∧ (False ∧ True))))))))) ∧ (qrefAll0 st pl ho ge nfl ffl n y1 y2)))) ∧ (((decide (Int.ofNat y1 < pl)) = (false)) → ((1 : Nat) ≤ (2 : Nat) ∧ ((([Sh.list [Sh.int IntKind.i64]]) = ([Sh.list [Sh.int IntKind.i64]])) ∧ (((y1) = (y1)) ∧ (((Int.toNat pl) = (y1)) ∧ (∀ y2 : Nat, (y2 < y1 → (∀ y3 : Nat, (y3 < List.length [Sh.list [Sh.int IntKind.i64]] → ((thickRow st pl ho ge ffl n y2) = (thickRow st pl ho ge ffl n y2)))))))))))))))))) := by kernel_rfl
  refine hvc.mpr ?_
  clear hvc
  dsimp only [qrefAll1, qrefAll2, qrefAll3, qrefAll6, qrefAll7, qrefAll8, qrefAll9, qrefAll11, qrefAll12, qrefAll13, qrefAll14, qrefAll4, qrefAll5, qrefAll10, qrefAll0]
  simp only [Bool.and_eq_true, decide_eq_true_eq] at hc
  obtain ⟨h1, h2⟩ := hc
  obtain ⟨e1, e2, e3, e4⟩ := flowE_ok h1
  have e5 := rackE_ok e1
  have hn := stepsE_ok h2
  obtain ⟨S, P, H, G, ⟨rfl, rfl, rfl, rfl⟩, c1, c2, c3, c4, c5, c6, c7, c8⟩ := rack_nat e5
  have hpE : ∀ z k : Nat, z < P → k < H → partE (P : Int) H z k = 0 := fun z k hz hk => by
    unfold partE
    rw [wrap_id (by omega) (by omega), wrap_id (by omega) (by omega), if_pos (by omega)]
  have hth : ∀ z k : Nat, z < P → k < H → refThickC [.int .i64 S, .int .i64 P, .int .i64 H, .int .i64 G, .list [.list [.int .i64]] nfl ffl, .int .i64 z, .int .i64 k, .int .i64 n] = true := fun z k hz hk => by
    simp only [refThickC, h1, h2, hpE z k hz hk, decide_true, Bool.and_self]
  simp
  have w1 : ∀ k : Nat, k < 100 → ((k + 1 : Nat) : Int) = IntKind.i64.wrap ((k : Int) + 1) := fun k hk => by
    rw [wrap_id (by omega) (by omega)]
    rfl
  refine ⟨fun hP => ⟨0, ⟨⟨rfl, by omega⟩, rfl⟩, fun k _ _ hk => ⟨fun hk1 => ⟨fun _ => ⟨1, ⟨⟨⟨rfl, by omega⟩, by omega, by omega⟩, by omega⟩, ⟨rfl, by subst hk; exact w1 0 (by omega)⟩, rfl, fun y hy => ?_⟩, hth 0 k (by omega) (by omega)⟩, by omega⟩, fun k _ _ hk hk' => ⟨fun hk1 => ⟨fun _ => ⟨fun _ => ⟨k + 1, ⟨⟨⟨rfl, by omega⟩, by omega, by omega⟩, by omega⟩, ⟨rfl, w1 k (by omega)⟩, rfl, fun y hy => bif_app (f := fun y => FD.int IntKind.i64 (thickV S P H G (0 : Nat) y ffl n)) hy rfl⟩, by omega⟩, hth 0 k (by omega) (by omega)⟩, fun hkH => ⟨1, ⟨⟨by omega, by omega⟩, by omega⟩, ⟨rfl, w1 0 (by omega)⟩, rfl, fun y hy => ?_⟩⟩, fun k h0 => by omega, fun k h0 => by omega⟩, fun x hx1 hx2 => ⟨fun hx => ⟨x, ⟨0, ⟨⟨by omega, by omega⟩, rfl⟩, ⟨rfl, rfl, rfl⟩, rfl⟩, fun k h0 => by omega, fun k h0 => by omega, fun k _ _ hk => ⟨fun hk1 => ⟨fun _ => ⟨1, ⟨⟨⟨by omega, by omega⟩, by omega, by omega⟩, by omega⟩, ⟨rfl, by subst hk; exact w1 0 (by omega)⟩, rfl, fun y hy => ?_⟩, hth x k (by omega) (by omega)⟩, by omega⟩, fun k _ _ hk hk' => ⟨fun hk1 => ⟨fun _ => ⟨fun _ => ⟨k + 1, ⟨⟨⟨by omega, by omega⟩, by omega, by omega⟩, by omega⟩, ⟨rfl, w1 k (by omega)⟩, rfl, fun y hy => bif_app (f := fun y => FD.int IntKind.i64 (thickV S P H G x y ffl n)) hy rfl⟩, by omega⟩, hth x k (by omega) (by omega)⟩, fun hkH => ⟨fun _ => ⟨x + 1, ⟨⟨by omega, by omega⟩, by omega⟩, ⟨rfl, w1 x (by omega)⟩, rfl, fun y hy => bif_app (f := thickRow S P H G ffl n) hy ?_⟩, by omega⟩⟩⟩, by omega⟩⟩
  · obtain rfl : y = 0 := by omega
    subst hk; rfl
  · obtain rfl : y = 0 := by omega
    obtain rfl : k = H := by omega
    rfl
  · obtain rfl : y = 0 := by omega
    subst hk; rfl
  · obtain rfl : k = H := by omega
    rfl

end
end Go.Ex


namespace Go.Ex
open Go Go.Proofs Go.RowKit
noncomputable section
set_option maxRecDepth 1000000

end
end Go.Ex


namespace Go.Ex
open Go Go.Proofs Go.RowKit
noncomputable section
set_option maxRecDepth 1000000

def gsX : G2 := (G2.setG gsW 66 (gFd refAllS (.one (.list [.list [.int .i64]])) refAllC refAllR))
theorem gsX_ok : G2Ok gsX := (G2Ok.setG gsW_ok (by kernel_rfl) (gsOk_of smX_ok gsW_ok refAll_ok))
theorem intsB_same (n : Nat) (f : Nat → Nat → FD) : intsB n f n f = true := by
  rw [intsB, Nat.beq_refl, natAll_of fun i _ => decide_eq_true rfl]
  rfl
theorem listsB_same (n : Nat) (f : Nat → Nat → FD) : listsB n f n f = true := by
  rw [listsB, Nat.beq_refl, natAll_of fun i _ => intsB_same _ _]
  rfl
def lawThickS : List PT := [.agg [.int .i64, .int .i64, .int .i64, .int .i64], .one (.list [.list [.int .i64]]), .agg [.int .i64, .int .i64, .int .i64]]
def lawThickC : List FD → Bool
  | [.int _ _, .int _ _, .int _ _, .int _ _, .list _ _ _, .int _ _, .int _ _, .int _ _] => true
  | _ => false
def lawThickR : List FD → List FD
  | [.int _ _, .int _ _, .int _ _, .int _ _, .list _ _ _, .int _ _, .int _ _, .int _ _] => [.bool true]
  | _ => []
def lawThickI (_st : Int) (_pl : Int) (_ho : Int) (_ge : Int) (_nfl : Nat) (_ffl : Nat → Nat → FD) (_p : Int) (_h : Int) (_n : Int) : Nat → AFam := alts (fun _ => [])
abbrev qlawThick2 (st : Int) (pl : Int) (ho : Int) (ge : Int) (nfl : Nat) (ffl : Nat → Nat → FD) (p : Int) (h : Int) (n : Int) : Prop := ((((decide (first3 (flowE st pl ho ge nfl ffl) (partE pl ho p h) (stepsE n) = (0 : Int))) = (true)) → ((((refThickC ([FD.int IntKind.i64 st, FD.int IntKind.i64 pl, FD.int IntKind.i64 ho, FD.int IntKind.i64 ge] ++ FD.list [Sh.list [Sh.int IntKind.i64]] nfl ffl :: ([FD.int IntKind.i64 p, FD.int IntKind.i64 h, FD.int IntKind.i64 n] ++ []))) = (true)) → (true = decide ((if first3 (flowE st pl ho ge nfl ffl) (partE pl ho p h) (stepsE n) = (0 : Int) then thickV st pl ho ge p h ffl n else (0 : Int)) = thickV st pl ho ge p h ffl n))) ∧ (((refThickC ([FD.int IntKind.i64 st, FD.int IntKind.i64 pl, FD.int IntKind.i64 ho, FD.int IntKind.i64 ge] ++ FD.list [Sh.list [Sh.int IntKind.i64]] nfl ffl :: ([FD.int IntKind.i64 p, FD.int IntKind.i64 h, FD.int IntKind.i64 n] ++ []))) = (false)) → False))) ∧ (((decide (first3 (flowE st pl ho ge nfl ffl) (partE pl ho p h) (stepsE n) = (0 : Int))) = (false)) → (true = false)))
abbrev qlawThick0 (st : Int) (pl : Int) (ho : Int) (ge : Int) (nfl : Nat) (ffl : Nat → Nat → FD) (p : Int) (h : Int) (n : Int) : Prop := (((true = true) → ((((decide (partE pl ho p h = (0 : Int))) = (false)) → ((((decide (partE pl ho p h = (0 : Int))) = (false)) → ((((decide (first3 (flowE st pl ho ge nfl ffl) (partE pl ho p h) (stepsE n) = partE pl ho p h)) = (true)) → (true = decide ((if first3 (flowE st pl ho ge nfl ffl) (partE pl ho p h) (stepsE n) = (0 : Int) then thickV st pl ho ge p h ffl n else (0 : Int)) = (0 : Int)))) ∧ (((decide (first3 (flowE st pl ho ge nfl ffl) (partE pl ho p h) (stepsE n) = partE pl ho p h)) = (false)) → (true = false)))) ∧ (((decide (partE pl ho p h = (0 : Int))) = (true)) → (qlawThick2 st pl ho ge nfl ffl p h n)))) ∧ (((decide (partE pl ho p h = (0 : Int))) = (true)) → ((((decide (stepsE n = (0 : Int))) = (false)) → ((((decide (first3 (flowE st pl ho ge nfl ffl) (partE pl ho p h) (stepsE n) = stepsE n)) = (true)) → (true = decide ((if first3 (flowE st pl ho ge nfl ffl) (partE pl ho p h) (stepsE n) = (0 : Int) then thickV st pl ho ge p h ffl n else (0 : Int)) = (0 : Int)))) ∧ (((decide (first3 (flowE st pl ho ge nfl ffl) (partE pl ho p h) (stepsE n) = stepsE n)) = (false)) → (true = false)))) ∧ (((decide (stepsE n = (0 : Int))) = (true)) → (qlawThick2 st pl ho ge nfl ffl p h n)))))) ∧ ((true = false) → False))
abbrev qlawThick1 (st : Int) (pl : Int) (ho : Int) (ge : Int) (nfl : Nat) (ffl : Nat → Nat → FD) (p : Int) (h : Int) (n : Int) : Prop := ((((decide (stepsE n = (0 : Int))) = (true)) → ((((refAllC ([FD.int IntKind.i64 st, FD.int IntKind.i64 pl, FD.int IntKind.i64 ho, FD.int IntKind.i64 ge] ++ [FD.list [Sh.list [Sh.int IntKind.i64]] nfl ffl, FD.int IntKind.i64 n])) = (true)) → (((true = true) → ((((listsB (if allE st pl ho ge nfl ffl n = (0 : Int) then Int.toNat pl else (0 : Nat)) (fun (z x : Nat) => thickRow st pl ho ge ffl n z) (Int.toNat pl) fun (z x : Nat) => thickRow st pl ho ge ffl n z) = (false)) → (true = false)) ∧ (((listsB (if allE st pl ho ge nfl ffl n = (0 : Int) then Int.toNat pl else (0 : Nat)) (fun (z x : Nat) => thickRow st pl ho ge ffl n z) (Int.toNat pl) fun (z x : Nat) => thickRow st pl ho ge ffl n z) = (true)) → (qlawThick0 st pl ho ge nfl ffl p h n)))) ∧ ((true = false) → False))) ∧ (((refAllC ([FD.int IntKind.i64 st, FD.int IntKind.i64 pl, FD.int IntKind.i64 ho, FD.int IntKind.i64 ge] ++ [FD.list [Sh.list [Sh.int IntKind.i64]] nfl ffl, FD.int IntKind.i64 n])) = (false)) → False))) ∧ (((decide (stepsE n = (0 : Int))) = (false)) → (qlawThick0 st pl ho ge nfl ffl p h n)))
theorem lawThick_ok : FnOk (mkR smX gsX) Try.prog η0 12 (FI.of Try.f12 true) lawThickS (.one .bool) lawThickC lawThickR := by
  refine fnOk_of0 smX_ok gsX_ok Try.fok12 (fun fds => match fds with | [.int _ st, .int _ pl, .int _ ho, .int _ ge, .list _ nfl ffl, .int _ p, .int _ h, .int _ n] => lawThickI st pl ho ge nfl ffl p h n | _ => alts fun _ => []) ?_
  intro fds hf hc
  obtain ⟨st, ds0, rfl, hf1⟩ := hf.int
  obtain ⟨pl, ds1, rfl, hf2⟩ := hf1.int
  obtain ⟨ho, ds2, rfl, hf3⟩ := hf2.int
  obtain ⟨ge, ds3, rfl, hf4⟩ := hf3.int
  obtain ⟨nfl, ffl, ds4, rfl, gfl, hf5⟩ := hf4.list
  obtain ⟨p, ds5, rfl, hf6⟩ := hf5.int
  obtain ⟨h, ds6, rfl, hf7⟩ := hf6.int
  obtain ⟨n, ds7, rfl, hf8⟩ := hf7.int
  obtain rfl := hf8.nil
  have hc : (true) = true := hc
  have hvc : (vcF smX gsX (FI.of Try.f12 true) lawThickS (.one .bool) (lawThickI st pl ho ge nfl ffl p h n) noR [.int .i64 st, .int .i64 pl, .int .i64 ho, .int .i64 ge, .list [.list [.int .i64]] nfl ffl, .int .i64 p, .int .i64 h, .int .i64 n] (lawThickR [.int .i64 st, .int .i64 pl, .int .i64 ho, .int .i64 ge, .list [.list [.int .i64]] nfl ffl, .int .i64 p, .int .i64 h, .int .i64 n])) =
    ((true = true) ∧ (((true = true) → (((true = false) → (true = false)) ∧ ((true = true) → (((true = true) → ((((narrowB nfl ffl) = (false)) → (true = true)) ∧ (((narrowB nfl ffl) = (true)) → ((((copyListsC [FD.list [Sh.list [Sh.int IntKind.i64]] nfl ffl]) = (true)) → (((true = true) → ((((copyListsC [FD.list [Sh.list [Sh.int IntKind.i64]] nfl ffl]) = (true)) → (((true = true) → (((true = true) → ((((decide (flowE st pl ho ge nfl ffl = (0 : Int))) = (false)) → ((((decide (first3 (flowE st pl ho ge nfl ffl) (partE pl ho p h) (stepsE n) = flowE st pl ho ge nfl ffl)) = (true)) → ((((decide (allE st pl ho ge nfl ffl n = flowE st pl ho ge nfl ffl)) = (true)) → ((((decide ((if first3 (flowE st pl ho ge nfl ffl) (partE pl ho p h) (stepsE n) = (0 : Int) then thickV st pl ho ge p h ffl n else (0 : Int)) = (0 : Int))) = (true)) → (true = decide (Int.ofNat (if allE st pl ho ge nfl ffl n = (0 : Int) then Int.toNat pl else (0 : Nat)) = (0 : Int)))) ∧ (((decide ((if first3 (flowE st pl ho ge nfl ffl) (partE pl ho p h) (stepsE n) = (0 : Int) then thickV st pl ho ge p h ffl n else (0 : Int)) = (0 : Int))) = (false)) → (true = false)))) ∧ (((decide (allE st pl ho ge nfl ffl n = flowE st pl ho ge nfl ffl)) = (false)) → (true = false)))) ∧ (((decide (first3 (flowE st pl ho ge nfl ffl) (partE pl ho p h) (stepsE n) = flowE st pl ho ge nfl ffl)) = (false)) → (true = false)))) ∧ (((decide (flowE st pl ho ge nfl ffl = (0 : Int))) = (true)) → (((true = true) → ((((decide (allE st pl ho ge nfl ffl n = stepsE n)) = (true)) → ((((decide (stepsE n = (0 : Int))) = (true)) → (qlawThick1 st pl ho ge nfl ffl p h n)) ∧ (((decide (stepsE n = (0 : Int))) = (false)) → ((((decide (Int.ofNat (if allE st pl ho ge nfl ffl n = (0 : Int) then Int.toNat pl else (0 : Nat)) = (0 : Int))) = (true)) → (qlawThick1 st pl ho ge nfl ffl p h n)) ∧ (((decide (Int.ofNat (if allE st pl ho ge nfl ffl n = (0 : Int) then Int.toNat pl else (0 : Nat)) = (0 : Int))) = (false)) → (true = false)))))) ∧ (((decide (allE st pl ho ge nfl ffl n = stepsE n)) = (false)) → (true = false)))) ∧ ((true = false) → False))))) ∧ ((true = false) → False))) ∧ ((true = false) → False))) ∧ (((copyListsC [FD.list [Sh.list [Sh.int IntKind.i64]] nfl ffl]) = (false)) → False))) ∧ ((true = false) → False))) ∧ (((copyListsC [FD.list [Sh.list [Sh.int IntKind.i64]] nfl ffl]) = (false)) → False))))) ∧ ((true = false) → False))))) ∧ ((true = false) → False))) := by kernel_rfl
  refine hvc.mpr ?_
  clear hvc
  dsimp only [qlawThick2, qlawThick0, qlawThick1]
  by_cases hn : narrowB nfl ffl = true
  · have hcp := narrow_copy hn
    by_cases h1 : flowE st pl ho ge nfl ffl = 0
    · by_cases h2 : stepsE n = 0
      · by_cases h3 : partE pl ho p h = 0
        · have hT : refThickC [.int .i64 st, .int .i64 pl, .int .i64 ho, .int .i64 ge, .list [.list [.int .i64]] nfl ffl, .int .i64 p, .int .i64 h, .int .i64 n] = true := by simp [refThickC, h1, h2, h3]
          have hA : refAllC [.int .i64 st, .int .i64 pl, .int .i64 ho, .int .i64 ge, .list [.list [.int .i64]] nfl ffl, .int .i64 n] = true := by simp [refAllC, h1, h2]
          simp [hn, hcp, h1, h2, h3, allE, first3, hT, hA, listsB_same]
        · have hA : refAllC [.int .i64 st, .int .i64 pl, .int .i64 ho, .int .i64 ge, .list [.list [.int .i64]] nfl ffl, .int .i64 n] = true := by simp [refAllC, h1, h2]
          simp [hn, hcp, h1, h2, h3, allE, first3, hA, listsB_same]
      · by_cases h3 : partE pl ho p h = 0
        · simp [hn, hcp, h1, h2, h3, allE, first3]
        · simp [hn, hcp, h1, h2, h3, allE, first3]
    · simp [hn, hcp, h1, allE, first3]
  · simp [hn]
end
end Go.Ex

