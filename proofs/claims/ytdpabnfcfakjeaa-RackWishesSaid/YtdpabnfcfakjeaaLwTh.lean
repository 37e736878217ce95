/-
  Thicknesses as sums, without overflow; the sums of a table's rows.
-/
/-
  The document's thickness: how often a part is at each place, times what it gets there.
-/
/-
  Contracts: the document's thickness of a part.
-/
/-
  Contracts: the document's least steps for a thickness.
-/
/-
  The law RackWishes, as the executor's contract.
-/
import Derived.Test.YtdpabnfcfakjeaaLwTb
import Derived.Test.YtdpabnfcfakjeaaLwVs

namespace Go.Ex
open Go Go.Proofs Go.RowKit
noncomputable section
set_option maxRecDepth 1000000

/-- What a part gets at a step. -/
def flA (f : Nat → Nat → FD) (S P H G Q K t : Nat) : Int := flowAt S H f (t + Q * (S / P), K + G * t)
def FT (f : Nat → Nat → FD) (S P H G Q K n : Nat) : Int := isum (flA f S P H G Q K) n
/-- The flow is right. -/
def FlowOk (f : Nat → Nat → FD) (S H : Nat) : Prop := ∀ a b : Nat, 0 ≤ flowAt S H f (a, b) ∧ flowAt S H f (a, b) ≤ 100
theorem flowE_fl {st pl ho ge : Int} {n : Nat} {f : Nat → Nat → FD} (h : flowE st pl ho ge n f = 0) : FlowOk f st.toNat ho.toNat := by
  obtain ⟨e1, e2, e3, e4⟩ := flowE_ok h
  obtain ⟨S, P, H, G, ⟨rfl, rfl, rfl, rfl⟩, c1, c2, c3, c4, c5, c6, c7, c8⟩ := rack_nat (rackE_ok e1)
  obtain ⟨w1, w2⟩ := rows_nat e3
  intro a b
  simp only [Int.toNat_natCast, flowAt]
  exact e4 _ (Nat.lt_of_lt_of_le (Nat.mod_lt _ (by omega)) (by omega)) _ (Nat.lt_of_lt_of_le (Nat.mod_lt _ (by omega)) (w2 _ (Nat.mod_lt _ (by omega))))
theorem FT_bd {f : Nat → Nat → FD} {S H : Nat} (hf : FlowOk f S H) (P G Q K n : Nat) : 0 ≤ FT f S P H G Q K n ∧ FT f S P H G Q K n ≤ 100 * n := isum_bd fun _ _ => hf _ _
theorem thA_places {f : Nat → Nat → FD} {S H : Nat} (hf : FlowOk f S H) (P G Q K m : Nat) : ∀ n, n ≤ 100000 → thA S H f (m : Int) (placesL S P G Q K n) = (FT f S P H G Q K n, FT f S P H G Q K (min n m), (n : Int))
  | 0, _ => by simp [placesL, thA, FT, isum]
  | n + 1, hn => by
    have b1 := FT_bd hf P G Q K n
    have b2 := FT_bd hf P G Q K (min n m)
    have b3 := hf (n + Q * (S / P)) (K + G * n)
    have b4 : ((f ((n + Q * (S / P)) % S) 0).fn ((K + G * n) % H) 0).i = flowAt S H f (n + Q * (S / P), K + G * n) := rfl
    have hmin : min n m ≤ n := Nat.min_le_left _ _
    rw [placesL_succ, thA_snoc, thA_places hf P G Q K m n (by omega)]
    simp only [thF, b4]
    rw [wrap_id (by omega) (by omega), wrap_id (n := (n : Int) + 1) (by omega) (by omega)]
    refine Prod.ext rfl (Prod.ext ?_ rfl)
    simp only
    by_cases h : n < m
    · rw [if_pos (by omega), Nat.min_eq_left (by omega), Nat.min_eq_left (by omega), wrap_id (by rw [Nat.min_eq_left (by omega)] at b2; omega) (by rw [Nat.min_eq_left (by omega)] at b2; omega)]
      rfl
    · rw [if_neg (by omega), Nat.min_eq_right (by omega), Nat.min_eq_right (by omega)]
/-- The thickness of a part. -/
theorem thickV_eq {f : Nat → Nat → FD} {S P H G Q K n : Nat} (c1 : 1 ≤ S) (c2 : S ≤ 24) (c5 : 1 ≤ H) (c6 : H ≤ 12) (hf : FlowOk f S H) (hn : n ≤ 1000000) :
    thickV S P H G Q K f n = (n / perN S H G : Nat) * FT f S P H G Q K (perN S H G) + FT f S P H G Q K (n % perN S H G) := by
  have hper : perI (S : Int) H G = (perN S H G : Nat) := perI_nat c2 c6
  have hp := perN_pos G c1 c5
  have hb := perN_le S H G
  have hSH : S * H ≤ 24 * 12 := Nat.mul_le_mul c2 c6
  unfold thickV thR stepsI
  simp only [hper, Int.toNat_natCast]
  generalize hq : perN S H G = p at *
  have em : ((n : Int).tmod (p : Int)) = ((n % p : Nat) : Int) := by rw [Int.tmod_eq_emod_of_nonneg (by omega), Int.natCast_emod]
  rw [em]
  by_cases h : n < p
  · rw [if_pos (by omega), if_pos (by omega), Int.toNat_natCast, thA_places hf P G Q K _ n (by omega), Nat.div_eq_of_lt h, Nat.mod_eq_of_lt h]
    simp
  · have hm := Nat.mod_lt n hp
    have b1 := FT_bd hf P G Q K p
    have b2 := FT_bd hf P G Q K (n % p)
    have ed : ((n : Int).tdiv (p : Int)) = ((n / p : Nat) : Int) := by rw [Int.tdiv_eq_ediv_of_nonneg (by omega), Int.natCast_ediv]
    have hd : n / p ≤ n := Nat.div_le_self _ _
    rw [if_neg (by omega), if_neg (by omega), Int.toNat_natCast, thA_places hf P G Q K _ p (by omega), ed, Nat.min_eq_right (by omega)]
    simp only
    generalize FT f S P H G Q K p = A at *
    generalize FT f S P H G Q K (n % p) = B at *
    generalize n / p = d at *
    have h1 : 0 ≤ (d : Int) * A := Int.mul_nonneg (by omega) b1.1
    have h2 : (d : Int) * A ≤ 1000000 * 100000 := Int.mul_le_mul (by omega) (by omega) b1.1 (by omega)
    rw [wrap_id (n := (d : Int)) (by omega) (by omega), wrap_id (n := (d : Int) * A) (by omega) (by omega), wrap_id (n := (d : Int) * A + B) (by omega) (by omega)]
end
end Go.Ex


namespace Go.Ex
open Go Go.Proofs Go.RowKit
noncomputable section
set_option maxRecDepth 1000000

theorem isum_addf (f g : Nat → Int) : ∀ n, isum (fun i => f i + g i) n = isum f n + isum g n
  | 0 => rfl
  | n + 1 => by simp only [isum, isum_addf f g n]; omega
theorem isum_zero : ∀ n, isum (fun _ => 0) n = 0
  | 0 => rfl
  | n + 1 => by simp only [isum, isum_zero n]; rfl
theorem isum_one (a : Nat) (c : Int) : ∀ n, isum (fun i => if i = a then c else 0) n = if a < n then c else 0
  | 0 => by simp [isum]
  | n + 1 => by
    simp only [isum, isum_one a c n]
    by_cases h1 : n = a
    · subst h1; simp
    · by_cases h2 : a < n
      · rw [if_pos h2, if_neg h1, if_pos (by omega)]; omega
      · rw [if_neg h2, if_neg h1, if_neg (by omega)]; rfl
theorem flA_at (f : Nat → Nat → FD) (S P H G Q K t : Nat) : flowAt S H f ((t + Q * (S / P)) % S, (K + G * t) % H) = flA f S P H G Q K t := by
  simp only [flA, flowAt, Nat.mod_mod]
theorem cnt_flow {S P H G Q K : Nat} (f : Nat → Nat → FD) (hS : 1 ≤ S) (hH : 1 ≤ H) (N : Nat) : isum (fun i => isum (fun k => cntV S P H G Q K N i k * flowAt S H f (i, k)) H) S = FT f S P H G Q K N := by
  induction N with
  | zero => simp only [cntV, Int.zero_mul, isum_zero]; rfl
  | succ N ih =>
    have e : ∀ i k, cntV S P H G Q K (N + 1) i k * flowAt S H f (i, k) = cntV S P H G Q K N i k * flowAt S H f (i, k) + if k = (K + G * N) % H then (if i = (N + Q * (S / P)) % S then flA f S P H G Q K N else 0) else 0 := fun i k => by
      simp only [cntV]
      by_cases h1 : i = (N + Q * (S / P)) % S
      · by_cases h2 : k = (K + G * N) % H
        · rw [if_pos ⟨h1, h2⟩, if_pos h2, if_pos h1, Int.add_mul, Int.one_mul]
          congr 1
          rw [h1, h2, flA_at]
        · rw [if_neg (fun x => h2 x.2), if_neg h2]; omega
      · by_cases h2 : k = (K + G * N) % H
        · rw [if_neg (fun x => h1 x.1), if_pos h2, if_neg h1]; omega
        · rw [if_neg (fun x => h2 x.2), if_neg h2]; omega
    simp only [e, isum_addf, isum_one, ih, if_pos (Nat.mod_lt (K + G * N) hH), if_pos (Nat.mod_lt (N + Q * (S / P)) hS)]
    rfl
/-- The thickness by whole periods is the plain sum. -/
theorem FT_per {f : Nat → Nat → FD} {S P H G Q K : Nat} (hS : 1 ≤ S) (hH : 1 ≤ H) (n : Nat) : FT f S P H G Q K n = (n / perN S H G : Nat) * FT f S P H G Q K (perN S H G) + FT f S P H G Q K (n % perN S H G) := by
  have hp := perN_pos G hS hH
  have key : ∀ t, flA f S P H G Q K (t % perN S H G) = flA f S P H G Q K t := fun t => by
    obtain ⟨e1, e2⟩ := place_per (S := S) (P := P) (H := H) (G := G) (Q := Q) (K := K) hS hH t
    rw [← flA_at, e1, e2, flA_at]
  have step : ∀ d r, FT f S P H G Q K (perN S H G * d + r) = (d : Int) * FT f S P H G Q K (perN S H G) + FT f S P H G Q K r := fun d r => by
    have shift : ∀ d t, flA f S P H G Q K (perN S H G * d + t) = flA f S P H G Q K t := fun d t => by
      rw [← key, Nat.mul_add_mod, key]
    have full : ∀ d, FT f S P H G Q K (perN S H G * d) = (d : Int) * FT f S P H G Q K (perN S H G) := fun d => by
      induction d with
      | zero => simp [FT, isum]
      | succ d ih =>
        rw [Nat.mul_succ]
        show isum _ (perN S H G * d + perN S H G) = _
        rw [isum_add, isum_congr fun j _ => shift d j]
        show FT f S P H G Q K (perN S H G * d) + FT f S P H G Q K (perN S H G) = _
        rw [ih, Int.natCast_succ, Int.add_mul, Int.one_mul]
    show isum _ (perN S H G * d + r) = _
    rw [isum_add, isum_congr fun j _ => shift d j]
    show FT f S P H G Q K (perN S H G * d) + FT f S P H G Q K r = _
    rw [full]
  have := step (n / perN S H G) (n % perN S H G)
  rwa [Nat.div_add_mod] at this
theorem thickV_FT {f : Nat → Nat → FD} {S P H G Q K n : Nat} (c1 : 1 ≤ S) (c2 : S ≤ 24) (c5 : 1 ≤ H) (c6 : H ≤ 12) (hf : FlowOk f S H) (hn : n ≤ 1000000) : thickV S P H G Q K f n = FT f S P H G Q K n := by
  rw [thickV_eq c1 c2 c5 c6 hf hn, ← FT_per c1 c5]
end
end Go.Ex


namespace Go.Ex
open Go Go.Proofs Go.RowKit
noncomputable section
set_option maxRecDepth 1000000

def smW : T Smf := (T.set smV 53 (some (gFd refStepsS (.one (.int .i64)) refStepsC refStepsR)))
theorem smW_ok : Tab SmOk smW := (Tab.set smV_ok (by kernel_rfl) (smOk_of smV_ok gs6_ok refSteps_ok rfl))
def gsW : G2 := (G2.setG gs6 39 (gFd VisitsS (.tup [.one (.list [.list [.int .i64]]), .one (.int .i64)]) VisitsC VisitsR))
theorem gsW_ok : G2Ok gsW := (G2Ok.setG gs6_ok (by kernel_rfl) (gsOk_of smV_ok gs6_ok Visits_ok))
def trow (f : Nat → Nat → FD) (S P H G Q K N i k : Nat) : Int := isum (fun k => cntV S P H G Q K N i k * flowAt S H f (i, k)) k
def tall (f : Nat → Nat → FD) (S P H G Q K N x : Nat) : Int := isum (fun i => trow f S P H G Q K N i H) x
def refThickS : List PT := [.agg [.int .i64, .int .i64, .int .i64, .int .i64], .one (.list [.list [.int .i64]]), .agg [.int .i64, .int .i64, .int .i64]]
def refThickC : List FD → Bool
  | [.int _ st, .int _ pl, .int _ ho, .int _ ge, .list _ nfl ffl, .int _ p, .int _ h, .int _ n] => decide (flowE st pl ho ge nfl ffl = 0) && (decide (partE pl ho p h = 0) && decide (stepsE n = 0))
  | _ => false
def refThickR : List FD → List FD
  | [.int _ st, .int _ pl, .int _ ho, .int _ ge, .list _ _ ffl, .int _ p, .int _ h, .int _ n] => [.int .i64 (thickV st pl ho ge p h ffl n)]
  | _ => []
def refThickI (st : Int) (pl : Int) (ho : Int) (ge : Int) (nfl : Nat) (ffl : Nat → Nat → FD) (p : Int) (h : Int) (n : Int) : Nat → AFam := fun i => match i with | 4 => ⟨Nat, fun _ => [{ι := Nat, G := fun x => x ≤ st.toNat, μ := fun x => st.toNat - x, tl := fun x => [(0, .agg [.int IntKind.i64 (.tm st), .int IntKind.i64 (.tm pl), .int IntKind.i64 (.tm ho), .int IntKind.i64 (.tm ge)]), (1, .one (.fz (.root 0 4) (FD.list [Sh.list [Sh.int IntKind.i64]] nfl ffl))), (2, .agg [.int IntKind.i64 (.tm p), .int IntKind.i64 (.tm h), .int IntKind.i64 (.tm n)]), (3, .one (.ptr (some (1, 0)))), (5, .one (.ptr (some (2, 0)))), (6, .one (.int IntKind.i64 (.lit (0 : Int)))), (7, .one (.fz (.root 3 0) (FD.list [Sh.list [Sh.int IntKind.i64]] (Int.toNat st) fun (i x : Nat) => FD.list [Sh.int IntKind.i64] (Int.toNat ho) fun (k x : Nat) => FD.int IntKind.i64 (refV (Int.toNat st) (Int.toNat pl) (Int.toNat ho) (Int.toNat ge) (Int.toNat p) (Int.toNat h) (Int.toNat n) (Int.toNat (perI st ho ge)) (Int.toNat (perI st ho ge)) i k)))), (8, .one (.int IntKind.i64 (.tm (tall ffl st.toNat pl.toNat ho.toNat ge.toNat p.toNat h.toNat n.toNat x)))), (9, .one (.int IntKind.i64 (.tm (Int.ofNat x))))], bl := fun x => [(1, .cells 47 4 [.int IntKind.i64 (.tm st), .int IntKind.i64 (.tm pl), .int IntKind.i64 (.tm ho), .int IntKind.i64 (.tm ge)]), (2, .cells 83 3 [.int IntKind.i64 (.tm p), .int IntKind.i64 (.tm h), .int IntKind.i64 (.tm n)])], nx := (1 : Nat) + (1 : Nat) + (1 : Nat) + (1 : Nat)}]⟩ | 7 => ⟨Nat, fun z => [{ι := Nat, G := fun x => z < st.toNat ∧ x ≤ ho.toNat, μ := fun x => ho.toNat - x, tl := fun x => [(0, .agg [.int IntKind.i64 (.tm st), .int IntKind.i64 (.tm pl), .int IntKind.i64 (.tm ho), .int IntKind.i64 (.tm ge)]), (1, .one (.fz (.root 0 4) (FD.list [Sh.list [Sh.int IntKind.i64]] nfl ffl))), (2, .agg [.int IntKind.i64 (.tm p), .int IntKind.i64 (.tm h), .int IntKind.i64 (.tm n)]), (3, .one (.ptr (some (1, 0)))), (5, .one (.ptr (some (2, 0)))), (6, .one (.int IntKind.i64 (.lit (0 : Int)))), (7, .one (.fz (.root 3 0) (FD.list [Sh.list [Sh.int IntKind.i64]] (Int.toNat st) fun (i x : Nat) => FD.list [Sh.int IntKind.i64] (Int.toNat ho) fun (k x : Nat) => FD.int IntKind.i64 (refV (Int.toNat st) (Int.toNat pl) (Int.toNat ho) (Int.toNat ge) (Int.toNat p) (Int.toNat h) (Int.toNat n) (Int.toNat (perI st ho ge)) (Int.toNat (perI st ho ge)) i k)))), (8, .one (.int IntKind.i64 (.tm (tall ffl st.toNat pl.toNat ho.toNat ge.toNat p.toNat h.toNat n.toNat z + trow ffl st.toNat pl.toNat ho.toNat ge.toNat p.toNat h.toNat n.toNat z x)))), (9, .one (.int IntKind.i64 (.tm (Int.ofNat z)))), (10, .one (.int IntKind.i64 (.tm (Int.ofNat x))))], bl := fun x => [(1, .cells 47 4 [.int IntKind.i64 (.tm st), .int IntKind.i64 (.tm pl), .int IntKind.i64 (.tm ho), .int IntKind.i64 (.tm ge)]), (2, .cells 83 3 [.int IntKind.i64 (.tm p), .int IntKind.i64 (.tm h), .int IntKind.i64 (.tm n)])], nx := (1 : Nat) + (1 : Nat) + (1 : Nat) + (1 : Nat)}]⟩ | _ => ⟨Nat, fun _ => []⟩
abbrev qrefThick0 (st : Int) (pl : Int) (ho : Int) (ge : Int) (p : Int) (h : Int) (n : Int) : Prop := (((Ref.root (3) (0)) = (Ref.root (3) (0))) ∧ (((FD.list [Sh.list [Sh.int IntKind.i64]] (Int.toNat st) fun (i x : Nat) => FD.list [Sh.int IntKind.i64] (Int.toNat ho) fun (k x : Nat) => FD.int IntKind.i64 (refV (Int.toNat st) (Int.toNat pl) (Int.toNat ho) (Int.toNat ge) (Int.toNat p) (Int.toNat h) (Int.toNat n) (Int.toNat (perI st ho ge)) (Int.toNat (perI st ho ge)) i k)) = (FD.list [Sh.list [Sh.int IntKind.i64]] (Int.toNat st) fun (i x : Nat) => FD.list [Sh.int IntKind.i64] (Int.toNat ho) fun (k x : Nat) => FD.int IntKind.i64 (refV (Int.toNat st) (Int.toNat pl) (Int.toNat ho) (Int.toNat ge) (Int.toNat p) (Int.toNat h) (Int.toNat n) (Int.toNat (perI st ho ge)) (Int.toNat (perI st ho ge)) i k))) ∧ (true = true)))
abbrev qrefThick1 (st : Int) (pl : Int) (ho : Int) (ge : Int) : Prop := ((((IntKind.i64) = (IntKind.i64)) ∧ ((st) = (st))) ∧ ((((IntKind.i64) = (IntKind.i64)) ∧ ((pl) = (pl))) ∧ ((((IntKind.i64) = (IntKind.i64)) ∧ ((ho) = (ho))) ∧ ((((IntKind.i64) = (IntKind.i64)) ∧ ((ge) = (ge))) ∧ True))))
abbrev qrefThick2 (p : Int) (h : Int) (n : Int) : Prop := ((((IntKind.i64) = (IntKind.i64)) ∧ ((p) = (p))) ∧ ((((IntKind.i64) = (IntKind.i64)) ∧ ((h) = (h))) ∧ ((((IntKind.i64) = (IntKind.i64)) ∧ ((n) = (n))) ∧ True)))
abbrev qrefThick3 (nfl : Nat) (ffl : Nat → Nat → FD) : Prop := (((Ref.root (0) (4)) = (Ref.root (0) (4))) ∧ (((FD.list [Sh.list [Sh.int IntKind.i64]] nfl ffl) = (FD.list [Sh.list [Sh.int IntKind.i64]] nfl ffl)) ∧ (true = true)))
theorem refThick_ok : FnOk (mkR smW gsW) Try.prog η0 67 (FI.of Try.f67 true) refThickS (.one (.int .i64)) refThickC refThickR := by
  refine fnOk_of0 smW_ok gsW_ok Try.fok67 (fun fds => match fds with | [.int _ st, .int _ pl, .int _ ho, .int _ ge, .list _ nfl ffl, .int _ p, .int _ h, .int _ n] => refThickI st pl ho ge nfl ffl p h n | _ => alts fun _ => []) ?_
  intro fds hf hc
  obtain ⟨st, ds0, rfl, hf1⟩ := hf.int
  obtain ⟨pl, ds1, rfl, hf2⟩ := hf1.int
  obtain ⟨ho, ds2, rfl, hf3⟩ := hf2.int
  obtain ⟨ge, ds3, rfl, hf4⟩ := hf3.int
  obtain ⟨nfl, ffl, ds4, rfl, gfl, hf5⟩ := hf4.list
  obtain ⟨p, ds5, rfl, hf6⟩ := hf5.int
  obtain ⟨h, ds6, rfl, hf7⟩ := hf6.int
  obtain ⟨n, ds7, rfl, hf8⟩ := hf7.int
  obtain rfl := hf8.nil
  have hc : (decide (flowE st pl ho ge nfl ffl = 0) && (decide (partE pl ho p h = 0) && decide (stepsE n = 0))) = true := hc
  have hvc : (vcF smW gsW (FI.of Try.f67 true) refThickS (.one (.int .i64)) (refThickI st pl ho ge nfl ffl p h n) noR [.int .i64 st, .int .i64 pl, .int .i64 ho, .int .i64 ge, .list [.list [.int .i64]] nfl ffl, .int .i64 p, .int .i64 h, .int .i64 n] (refThickR [.int .i64 st, .int .i64 pl, .int .i64 ho, .int .i64 ge, .list [.list [.int .i64]] nfl ffl, .int .i64 p, .int .i64 h, .int .i64 n])) =
    ((true = true) ∧ ((((refVisitsC ([FD.int IntKind.i64 st, FD.int IntKind.i64 pl, FD.int IntKind.i64 ho, FD.int IntKind.i64 ge] ++ ([FD.int IntKind.i64 p, FD.int IntKind.i64 h] ++ [FD.int IntKind.i64 n]))) = (true)) → (∃ y0 : Nat, ((∃ y1 : Nat, ((y1 ≤ Int.toNat st ∧ True) ∧ (((true = true) ∧ ((qrefThick1 st pl ho ge) ∧ ((qrefThick3 nfl ffl) ∧ ((qrefThick2 p h n) ∧ ((((1, 1) ∈ ([(2, 2), (1, 1)] : List (Nat × Nat))) ∧ ((0) = (0))) ∧ ((((2, 2) ∈ ([(2, 2), (1, 1)] : List (Nat × Nat))) ∧ ((0) = (0))) ∧ ((((IntKind.i64) = (IntKind.i64)) ∧ (((0 : Int)) = ((0 : Int)))) ∧ ((qrefThick0 st pl ho ge p h n) ∧ ((((IntKind.i64) = (IntKind.i64)) ∧ ((tall ffl (Int.toNat st) (Int.toNat pl) (Int.toNat ho) (Int.toNat ge) (Int.toNat p) (Int.toNat h) (Int.toNat n) y1) = ((0 : Int)))) ∧ ((((IntKind.i64) = (IntKind.i64)) ∧ ((Int.ofNat y1) = ((0 : Int)))) ∧ True)))))))))) ∧ (((((47 : TypeId)) = ((47 : Nat))) ∧ (((4) = (4)) ∧ (qrefThick1 st pl ho ge))) ∧ (((((83 : TypeId)) = ((83 : Nat))) ∧ (((3) = (3)) ∧ (qrefThick2 p h n))) ∧ True))))) ∧ (∀ y1 : Nat, (y1 ≤ Int.toNat st → ((((decide (Int.ofNat y1 < st)) = (true)) → (∃ y2 : Nat, ((∃ y3 : Nat, (((y2 < Int.toNat st ∧ y3 ≤ Int.toNat ho) ∧ True) ∧ (((true = true) ∧ ((qrefThick1 st pl ho ge) ∧ ((qrefThick3 nfl ffl) ∧ ((qrefThick2 p h n) ∧ ((((1, 1) ∈ ([(2, 2), (1, 1)] : List (Nat × Nat))) ∧ ((0) = (0))) ∧ ((((2, 2) ∈ ([(2, 2), (1, 1)] : List (Nat × Nat))) ∧ ((0) = (0))) ∧ ((((IntKind.i64) = (IntKind.i64)) ∧ (((0 : Int)) = ((0 : Int)))) ∧ ((qrefThick0 st pl ho ge p h n) ∧ ((((IntKind.i64) = (IntKind.i64)) ∧ ((tall ffl (Int.toNat st) (Int.toNat pl) (Int.toNat ho) (Int.toNat ge) (Int.toNat p) (Int.toNat h) (Int.toNat n) y2 + trow ffl (Int.toNat st) (Int.toNat pl) (Int.toNat ho) (Int.toNat ge) (Int.toNat p) (Int.toNat h) (Int.toNat n) y2 y3) = (tall ffl (Int.toNat st) (Int.toNat pl) (Int.toNat ho) (Int.toNat ge) (Int.toNat p) (Int.toNat h) (Int.toNat n) y1))) ∧ ((((IntKind.i64) = (IntKind.i64)) ∧ ((Int.ofNat y2) = (Int.ofNat y1))) ∧ ((((IntKind.i64) = (IntKind.i64)) ∧ ((Int.ofNat y3) = ((0 : Int)))) ∧ True))))))))))) ∧ (((((47 : TypeId)) = ((47 : TypeId))) ∧ (((4) = (4)) ∧ (qrefThick1 st pl ho ge))) ∧ (((((83 : TypeId)) = ((83 : TypeId))) ∧ (((3) = (3)) ∧ (qrefThick2 p h n))) ∧ True))))) ∧ (∀ y3 : Nat, ((y2 < Int.toNat st ∧ y3 ≤ Int.toNat ho) → ((((decide (Int.ofNat y3 < ho)) = (true)) → ((((decide ((0 : Int) ≤ Int.ofNat y2) && decide (Int.ofNat y2 < (↑(Int.toNat st) : Int))) = (true)) → ((((decide ((0 : Int) ≤ Int.ofNat y3) && decide (Int.ofNat y3 < (↑(Int.toNat ho) : Int))) = (true)) → ((((decide ((0 : Int) ≤ Int.ofNat y2) && decide (Int.ofNat y2 < (↑nfl : Int))) = (true)) → ((((decide ((0 : Int) ≤ Int.ofNat y3) && decide (Int.ofNat y3 < (↑(FD.ln (ffl (Int.toNat (Int.ofNat y2)) (0 : Nat))) : Int))) = (true)) → (∃ y4 : Nat, (((y2 < Int.toNat st ∧ y4 ≤ Int.toNat ho) ∧ Int.toNat ho - y4 < Int.toNat ho - y3) ∧ (((true = true) ∧ ((qrefThick1 st pl ho ge) ∧ ((qrefThick3 nfl ffl) ∧ ((qrefThick2 p h n) ∧ ((((1, 1) ∈ ([(2, 2), (1, 1)] : List (Nat × Nat))) ∧ ((0) = (0))) ∧ ((((2, 2) ∈ ([(2, 2), (1, 1)] : List (Nat × Nat))) ∧ ((0) = (0))) ∧ ((((IntKind.i64) = (IntKind.i64)) ∧ (((0 : Int)) = ((0 : Int)))) ∧ ((qrefThick0 st pl ho ge p h n) ∧ ((((IntKind.i64) = (IntKind.i64)) ∧ ((tall ffl (Int.toNat st) (Int.toNat pl) (Int.toNat ho) (Int.toNat ge) (Int.toNat p) (Int.toNat h) (Int.toNat n) y2 + trow ffl (Int.toNat st) (Int.toNat pl) (Int.toNat ho) (Int.toNat ge) (Int.toNat p) (Int.toNat h) (Int.toNat n) y2 y4) = (IntKind.wrap IntKind.i64 (tall ffl (Int.toNat st) (Int.toNat pl) (Int.toNat ho) (Int.toNat ge) (Int.toNat p) (Int.toNat h) (Int.toNat n) y2 + trow ffl (Int.toNat st) (Int.toNat pl) (Int.toNat ho) (Int.toNat ge) (Int.toNat p) (Int.toNat h) (Int.toNat n) y2 y3 + IntKind.wrap IntKind.i64 (refV (Int.toNat st) (Int.toNat pl) (Int.toNat ho) (Int.toNat ge) (Int.toNat p) (Int.toNat h) (Int.toNat n) (Int.toNat (perI st ho ge)) (Int.toNat (perI st ho ge)) (Int.toNat (Int.ofNat y2)) (Int.toNat (Int.ofNat y3)) * FD.i (FD.fn (ffl (Int.toNat (Int.ofNat y2)) (0 : Nat)) (Int.toNat (Int.ofNat y3)) (0 : Nat))))))) ∧ ((((IntKind.i64) = (IntKind.i64)) ∧ ((Int.ofNat y2) = (Int.ofNat y2))) ∧ ((((IntKind.i64) = (IntKind.i64)) ∧ ((Int.ofNat y4) = (IntKind.wrap IntKind.i64 (Int.ofNat y3 + (1 : Int))))) ∧ True))))))))))) ∧ (((((47 : TypeId)) = ((47 : TypeId))) ∧ (((4) = (4)) ∧ (qrefThick1 st pl ho ge))) ∧ (((((83 : TypeId)) = ((83 : TypeId))) ∧ (((3) = (3)) ∧ (qrefThick2 p h n))) ∧ True)))))) ∧ (((decide ((0 : Int) ≤ Int.ofNat y3) && decide (Int.ofNat y3 < (↑(FD.ln (ffl (Int.toNat (Int.ofNat y2)) (0 : Nat))) : Int))) = (false)) → False))) ∧ (((decide ((0 : Int) ≤ Int.ofNat y2) && decide (Int.ofNat y2 < (↑nfl : Int))) = (false)) → False))) ∧ (((decide ((0 : Int) ≤ Int.ofNat y3) && decide (Int.ofNat y3 < (↑(Int.toNat ho) : Int))) = (false)) → False))) ∧ (((decide ((0 : Int) ≤ Int.ofNat y2) && decide (Int.ofNat y2 < (↑(Int.toNat st) : Int))) = (false)) → False))) ∧ (((decide (Int.ofNat y3 < ho)) = (false)) → (∃ y4 : Nat, ((y4 ≤ Int.toNat st ∧ Int.toNat st - y4 < Int.toNat st - y1) ∧ (((true = true) ∧ ((qrefThick1 st pl ho ge) ∧ ((qrefThick3 nfl ffl) ∧ ((qrefThick2 p h n) ∧ ((((1, 1) ∈ ([(2, 2), (1, 1)] : List (Nat × Nat))) ∧ ((0) = (0))) ∧ ((((2, 2) ∈ ([(2, 2), (1, 1)] : List (Nat × Nat))) ∧ ((0) = (0))) ∧ ((((IntKind.i64) = (IntKind.i64)) ∧ (((0 : Int)) = ((0 : Int)))) ∧ ((qrefThick0 st pl ho ge p h n) ∧ ((((IntKind.i64) = (IntKind.i64)) ∧ ((tall ffl (Int.toNat st) (Int.toNat pl) (Int.toNat ho) (Int.toNat ge) (Int.toNat p) (Int.toNat h) (Int.toNat n) y4) = (tall ffl (Int.toNat st) (Int.toNat pl) (Int.toNat ho) (Int.toNat ge) (Int.toNat p) (Int.toNat h) (Int.toNat n) y2 + trow ffl (Int.toNat st) (Int.toNat pl) (Int.toNat ho) (Int.toNat ge) (Int.toNat p) (Int.toNat h) (Int.toNat n) y2 y3))) ∧ ((((IntKind.i64) = (IntKind.i64)) ∧ ((Int.ofNat y4) = (IntKind.wrap IntKind.i64 (Int.ofNat y2 + (1 : Int))))) ∧ True)))))))))) ∧ (((((47 : TypeId)) = ((47 : TypeId))) ∧ (((4) = (4)) ∧ (qrefThick1 st pl ho ge))) ∧ (((((83 : TypeId)) = ((83 : TypeId))) ∧ (((3) = (3)) ∧ (qrefThick2 p h n))) ∧ True)))))))))))) ∧ (((decide (Int.ofNat y1 < st)) = (false)) → (((IntKind.i64) = (IntKind.i64)) ∧ ((thickV st pl ho ge p h ffl n) = (tall ffl (Int.toNat st) (Int.toNat pl) (Int.toNat ho) (Int.toNat ge) (Int.toNat p) (Int.toNat h) (Int.toNat n) y1)))))))))) ∧ (((refVisitsC ([FD.int IntKind.i64 st, FD.int IntKind.i64 pl, FD.int IntKind.i64 ho, FD.int IntKind.i64 ge] ++ ([FD.int IntKind.i64 p, FD.int IntKind.i64 h] ++ [FD.int IntKind.i64 n]))) = (false)) → False))) := by kernel_rfl
  refine hvc.mpr ?_
  clear hvc
  dsimp only [qrefThick0, qrefThick1, qrefThick2, qrefThick3]
  simp only [Bool.and_eq_true, decide_eq_true_eq] at hc
  obtain ⟨h1, h2, h3⟩ := hc
  obtain ⟨e1, e2, e3, e4⟩ := flowE_ok h1
  have hF := flowE_fl h1
  have e5 := rackE_ok e1
  have e6 := partE_ok e5 h2
  have e7 := stepsE_ok h3
  obtain ⟨S, P, H, G, ⟨rfl, rfl, rfl, rfl⟩, c1, c2, c3, c4, c5, c6, c7, c8⟩ := rack_nat e5
  obtain ⟨Q, K, ⟨rfl, rfl⟩, c9, c10⟩ := part_nat e6
  obtain ⟨N, rfl⟩ := Int.eq_ofNat_of_zero_le e7.1
  obtain ⟨w1, w2⟩ := rows_nat e3
  simp only [Int.toNat_natCast] at hF
  have hper : perI (S : Int) H G = (perN S H G : Nat) := perI_nat (by omega) (by omega)
  have hV : ∀ i k, refV S P H G Q K N (perN S H G) (perN S H G) i k = cntV S P H G Q K N i k := refV_eq c1 c5 N
  have cV : refVisitsC [FD.int IntKind.i64 (S : Int), FD.int IntKind.i64 (P : Int), FD.int IntKind.i64 (H : Int), FD.int IntKind.i64 (G : Int), FD.int IntKind.i64 (Q : Int), FD.int IntKind.i64 (K : Int), FD.int IntKind.i64 (N : Int)] = true := by
    simp only [refVisitsC, e5, e6, Bool.and_eq_true, decide_eq_true_eq]
    exact ⟨⟨trivial, trivial⟩, by omega, by omega⟩
  have q1 : ∀ a : Nat, a < S → a < nfl := fun a h => by omega
  have q2 : ∀ a b : Nat, a < S → b < H → b < (ffl a 0).ln := fun a b h h' => Nat.lt_of_lt_of_le h' (w2 _ h)
  simp [hper, hV, cV]
  have hfl : ∀ a b : Nat, a < S → b < H → ((ffl a 0).fn b 0).i = flowAt S H ffl (a, b) := fun a b h h' => by
    simp only [flowAt, Nat.mod_eq_of_lt h, Nat.mod_eq_of_lt h']
  have hterm : ∀ i k : Nat, 0 ≤ cntV S P H G Q K N i k * flowAt S H ffl (i, k) ∧ cntV S P H G Q K N i k * flowAt S H ffl (i, k) ≤ 100000000 := fun i k => by
    have b1 := cntV_bd S P H G Q K i k N
    have b2 := hF i k
    refine ⟨Int.mul_nonneg b1.1 b2.1, Int.le_trans (Int.mul_le_mul b1.2 b2.2 b2.1 (by omega)) (by omega)⟩
  have hrow : ∀ i k : Nat, k ≤ H → 0 ≤ trow ffl S P H G Q K N i k ∧ trow ffl S P H G Q K N i k ≤ 1200000000 := fun i k hk => by
    have b : 0 ≤ trow ffl S P H G Q K N i k ∧ trow ffl S P H G Q K N i k ≤ 100000000 * (k : Int) := isum_bd (fun j _ => hterm i j)
    omega
  have hall : ∀ x : Nat, x ≤ S → 0 ≤ tall ffl S P H G Q K N x ∧ tall ffl S P H G Q K N x ≤ 28800000000 := fun x hx => by
    have b : 0 ≤ tall ffl S P H G Q K N x ∧ tall ffl S P H G Q K N x ≤ 1200000000 * (x : Int) := isum_bd (fun j _ => hrow j H (Nat.le_refl _))
    omega
  have w1 : ∀ y : Nat, y < 100 → ((y + 1 : Nat) : Int) = IntKind.i64.wrap ((y : Int) + 1) := fun y hy => by rw [wrap_id (by omega) (by omega)]; rfl
  have hstep : ∀ y y2 y3 : Nat, y2 = y → y < S → y3 = H → ∃ y4, (y4 ≤ S ∧ S - y4 < S - y) ∧ tall ffl S P H G Q K N y4 = tall ffl S P H G Q K N y2 + trow ffl S P H G Q K N y2 y3 ∧ (y4 : Int) = IntKind.i64.wrap ((y2 : Int) + 1) := fun y y2 y3 e hy e3 => by
    subst e; subst e3
    exact ⟨y2 + 1, ⟨by omega, by omega⟩, rfl, w1 y2 (by omega)⟩
  refine ⟨rfl, fun y1 hy => ⟨fun hlt => ⟨y1, ⟨0, ⟨hlt, by omega⟩, by simp [trow, isum], rfl, rfl⟩, fun y3 _ h3 => ⟨fun h3' => ⟨fun _ => ⟨fun _ => ⟨fun _ => ⟨fun _ => ⟨y3 + 1, ⟨⟨hlt, by omega⟩, by omega⟩, ?_, w1 y3 (by omega)⟩, q2 _ _ hlt h3'⟩, q1 _ hlt⟩, h3'⟩, hlt⟩, fun h3' => hstep y1 y1 y3 rfl hlt (by omega)⟩⟩, fun hge => ?_⟩⟩
  · have b1 := hrow y1 y3 (by omega)
    have b2 := hall y1 (by omega)
    have b3 := hterm y1 y3
    have e : trow ffl S P H G Q K N y1 (y3 + 1) = trow ffl S P H G Q K N y1 y3 + cntV S P H G Q K N y1 y3 * flowAt S H ffl (y1, y3) := rfl
    rw [e, hfl y1 y3 hlt h3']
    generalize cntV S P H G Q K N y1 y3 * flowAt S H ffl (y1, y3) = t at *
    rw [wrap_id (n := t) (by omega) (by omega), wrap_id (by omega) (by omega)]
    omega
  · obtain rfl : y1 = S := by omega
    rw [thickV_FT c1 c2 c5 c6 hF (by omega)]
    exact (cnt_flow ffl c1 c5 N).symm
def smX : T Smf := (T.set smW 67 (some (gFd refThickS (.one (.int .i64)) refThickC refThickR)))
theorem smX_ok : Tab SmOk smX := (Tab.set smW_ok (by kernel_rfl) (smOk_of smW_ok gsW_ok refThick_ok rfl))
end
end Go.Ex


namespace Go.Ex
open Go Go.Proofs Go.RowKit
noncomputable section
set_option maxRecDepth 1000000

theorem placesL_drop (S P G Q K : Nat) {n t : Nat} (h : t < n) : (placesL S P G Q K n).drop t = (t + Q * (S / P), K + G * t) :: (placesL S P G Q K n).drop (t + 1) := by
  have hl : t < (placesL S P G Q K n).length := by simp [placesL]; exact h
  rw [List.drop_eq_getElem_cons hl]
  simp [placesL]
theorem sfRun_go {f : Nat → Nat → FD} {S H : Nat} (hf : FlowOk f S H) (P G Q K : Nat) {l s : Int} {n : Nat} (hl : l ≤ 1000000000) (hl0 : 0 ≤ l) (hs : 0 ≤ s) (hs1 : s ≤ 1000000000000) (hn : n ≤ 100000) : ∀ t, t ≤ n → (∀ u, u ≤ t → FT f S P H G Q K u < l) →
    sfRun (flowAt S H f) l s (placesL S P G Q K n) = sfRun (flowAt S H f) (l - FT f S P H G Q K t) (s + t) ((placesL S P G Q K n).drop t)
  | 0, _, _ => by simp [FT, isum]
  | t + 1, ht, h => by
    have b1 := FT_bd hf P G Q K t
    have b2 := FT_bd hf P G Q K (t + 1)
    have b3 := h (t + 1) (Nat.le_refl _)
    have e : FT f S P H G Q K (t + 1) = FT f S P H G Q K t + flowAt S H f (t + Q * (S / P), K + G * t) := rfl
    rw [sfRun_go hf P G Q K hl hl0 hs hs1 hn t (by omega) (fun u hu => h u (by omega)), placesL_drop S P G Q K (show t < n by omega), sfRun]
    rw [e] at b2 b3 ⊢
    rw [wrap_id (n := l - FT f S P H G Q K t - flowAt S H f (t + Q * (S / P), K + G * t)) (by omega) (by omega), wrap_id (n := s + (t : Int) + 1) (by omega) (by omega), if_neg (by omega), show l - (FT f S P H G Q K t + flowAt S H f (t + Q * (S / P), K + G * t)) = l - FT f S P H G Q K t - flowAt S H f (t + Q * (S / P), K + G * t) by omega, show s + ((t + 1 : Nat) : Int) = s + (t : Int) + 1 by omega]
theorem sfRun_at {f : Nat → Nat → FD} {S H : Nat} (hf : FlowOk f S H) (P G Q K : Nat) {l s : Int} {n : Nat} (hl : l ≤ 1000000000) (hl0 : 0 ≤ l) (hs : 0 ≤ s) (hs1 : s ≤ 1000000000000) (hn : n ≤ 100000) {t : Nat} (ht : t + 1 ≤ n) (h : ∀ u, u ≤ t → FT f S P H G Q K u < l) (hg : l ≤ FT f S P H G Q K (t + 1)) :
    sfRun (flowAt S H f) l s (placesL S P G Q K n) = s + ((t + 1 : Nat) : Int) := by
  have b1 := FT_bd hf P G Q K t
  have b2 := FT_bd hf P G Q K (t + 1)
  have e : FT f S P H G Q K (t + 1) = FT f S P H G Q K t + flowAt S H f (t + Q * (S / P), K + G * t) := rfl
  rw [sfRun_go hf P G Q K hl hl0 hs hs1 hn t (by omega) h, placesL_drop S P G Q K (show t < n by omega), sfRun]
  rw [e] at b2 hg
  rw [wrap_id (n := l - FT f S P H G Q K t - flowAt S H f (t + Q * (S / P), K + G * t)) (by omega) (by omega), wrap_id (n := s + (t : Int) + 1) (by omega) (by omega), if_pos (by omega)]
  omega
/-- The numbers of a wish, without overflow. -/
theorem sf_nice {th all p : Int} (h1 : 1 ≤ th) (h2 : th ≤ 500000000) (h3 : 1 ≤ all) (h4 : all ≤ 1000000) (h5 : 1 ≤ p) (h6 : p ≤ 1000) :
    sfPer th all = (th - 1) / all ∧ sfL0 th all = th - (th - 1) / all * all ∧ sfS0 th all p = (th - 1) / all * p ∧ (1 ≤ th - (th - 1) / all * all ∧ th - (th - 1) / all * all ≤ all) ∧ 0 ≤ (th - 1) / all ∧ (th - 1) / all ≤ 500000000 := by
  have e0 : (th - 1) / all * all + (th - 1) % all = th - 1 := by rw [Int.mul_comm]; exact Int.mul_ediv_add_emod _ _
  have e1 := Int.emod_nonneg (th - 1) (show all ≠ 0 by omega)
  have e2 := Int.emod_lt_of_pos (th - 1) (show 0 < all by omega)
  have e3 : 0 ≤ (th - 1) / all := Int.ediv_nonneg (by omega) (by omega)
  have e4 : (th - 1) / all ≤ th - 1 := Int.ediv_le_self _ (by omega)
  have e5 : sfPer th all = (th - 1) / all := by
    unfold sfPer
    rw [wrap_id (n := th - 1) (by omega) (by omega), Int.tdiv_eq_ediv_of_nonneg (by omega), wrap_id (by omega) (by omega)]
  have e6 : (th - 1) / all * p ≤ 500000000 * 1000 := Int.mul_le_mul (by omega) h6 (by omega) (by omega)
  have e7 : 0 ≤ (th - 1) / all * p := Int.mul_nonneg e3 (by omega)
  refine ⟨e5, ?_, ?_, ⟨by omega, by omega⟩, e3, by omega⟩
  · unfold sfL0
    rw [e5]
    generalize (th - 1) / all * all = z at *
    rw [wrap_id (n := z) (by omega) (by omega), wrap_id (by omega) (by omega)]
  · unfold sfS0
    rw [e5, wrap_id (by omega) (by omega)]
def lowT (st pl ho ge p h : Int) (f : Nat → Nat → FD) (th : Int) (x : Nat) : Prop := ∀ u : Nat, u < x → thickV st pl ho ge p h f u < sfL0 th (thickV st pl ho ge p h f (perI st ho ge))
def refSteps2S : List PT := [.agg [.int .i64, .int .i64, .int .i64, .int .i64], .one (.list [.list [.int .i64]]), .agg [.int .i64, .int .i64, .int .i64]]
def refSteps2C : List FD → Bool
  | [.int _ st, .int _ pl, .int _ ho, .int _ ge, .list _ nfl ffl, .int _ p, .int _ h, .int _ th] => decide (flowE st pl ho ge nfl ffl = 0) && (decide (partE pl ho p h = 0) && (decide (0 ≤ th) && decide (th ≤ 500000000)))
  | _ => false
def refSteps2R : List FD → List FD
  | [.int _ st, .int _ pl, .int _ ho, .int _ ge, .list _ _ ffl, .int _ p, .int _ h, .int _ th] => [.int .i64 (if th = 0 then 0 else if thickV st pl ho ge p h ffl (perI st ho ge) = 0 then 0 else wishV st pl ho ge p h ffl th), .bool (decide (th = 0) || !decide (thickV st pl ho ge p h ffl (perI st ho ge) = 0))]
  | _ => []
def refSteps2I (st : Int) (pl : Int) (ho : Int) (ge : Int) (nfl : Nat) (ffl : Nat → Nat → FD) (p : Int) (h : Int) (th : Int) : Nat → AFam := fun i => match i with | 10 => ⟨Nat, fun _ => [{ι := Nat, G := fun x => x ≤ (perI st ho ge).toNat + 1 ∧ lowT st pl ho ge p h ffl th x, μ := fun x => (perI st ho ge).toNat + 1 - x, tl := fun x => [(0, .agg [.int IntKind.i64 (.tm st), .int IntKind.i64 (.tm pl), .int IntKind.i64 (.tm ho), .int IntKind.i64 (.tm ge)]), (1, .one (.fz (.root 0 4) (FD.list [Sh.list [Sh.int IntKind.i64]] nfl ffl))), (2, .agg [.int IntKind.i64 (.tm p), .int IntKind.i64 (.tm h), .int IntKind.i64 (.tm th)]), (3, .one (.ptr (some (1, 0)))), (5, .one (.ptr (some (2, 0)))), (6, .one (.int IntKind.i64 (.lit (0 : Int)))), (7, .one (.bool (.lit false))), (8, .one (.int IntKind.i64 (.tm (perI st ho ge)))), (9, .one (.int IntKind.i64 (.tm (thickV st pl ho ge p h ffl (perI st ho ge))))), (10, .one (.int IntKind.i64 (.tm (sfPer th (thickV st pl ho ge p h ffl (perI st ho ge)))))), (11, .one (.int IntKind.i64 (.tm (sfL0 th (thickV st pl ho ge p h ffl (perI st ho ge)))))), (12, .one (.int IntKind.i64 (.tm (Int.ofNat x))))], bl := fun x => [(1, .cells 47 4 [.int IntKind.i64 (.tm st), .int IntKind.i64 (.tm pl), .int IntKind.i64 (.tm ho), .int IntKind.i64 (.tm ge)]), (2, .cells 75 3 [.int IntKind.i64 (.tm p), .int IntKind.i64 (.tm h), .int IntKind.i64 (.tm th)])], nx := (1 : Nat) + (1 : Nat) + (1 : Nat)}]⟩ | _ => ⟨Nat, fun _ => []⟩
abbrev qrefSteps21 (st : Int) (pl : Int) (ho : Int) (ge : Int) : Prop := ((((IntKind.i64) = (IntKind.i64)) ∧ ((st) = (st))) ∧ ((((IntKind.i64) = (IntKind.i64)) ∧ ((pl) = (pl))) ∧ ((((IntKind.i64) = (IntKind.i64)) ∧ ((ho) = (ho))) ∧ ((((IntKind.i64) = (IntKind.i64)) ∧ ((ge) = (ge))) ∧ True))))
abbrev qrefSteps22 (p : Int) (h : Int) (th : Int) : Prop := ((((IntKind.i64) = (IntKind.i64)) ∧ ((p) = (p))) ∧ ((((IntKind.i64) = (IntKind.i64)) ∧ ((h) = (h))) ∧ ((((IntKind.i64) = (IntKind.i64)) ∧ ((th) = (th))) ∧ True)))
abbrev qrefSteps23 (st : Int) (pl : Int) (ho : Int) (ge : Int) (ffl : Nat → Nat → FD) (p : Int) (h : Int) (th : Int) : Prop := (((IntKind.i64) = (IntKind.i64)) ∧ ((if th = (0 : Int) then (0 : Int) else if thickV st pl ho ge p h ffl (perI st ho ge) = (0 : Int) then (0 : Int) else wishV st pl ho ge p h ffl th) = ((0 : Int))))
abbrev qrefSteps20 (st : Int) (pl : Int) (ho : Int) (ge : Int) (nfl : Nat) (ffl : Nat → Nat → FD) (p : Int) (h : Int) (th : Int) : Prop := (∀ y1 : Nat, ((y1 ≤ Int.toNat (perI st ho ge) + (1 : Nat) ∧ (∀ y2 : Nat, (y2 < y1 → thickV st pl ho ge p h ffl (↑y2 : Int) < sfL0 th (thickV st pl ho ge p h ffl (perI st ho ge))))) → ((((decide (perI st ho ge < Int.ofNat y1)) = (false)) → ((((refThickC ([FD.int IntKind.i64 st, FD.int IntKind.i64 pl, FD.int IntKind.i64 ho, FD.int IntKind.i64 ge] ++ FD.list [Sh.list [Sh.int IntKind.i64]] nfl ffl :: ([FD.int IntKind.i64 p, FD.int IntKind.i64 h, FD.int IntKind.i64 (Int.ofNat y1)] ++ []))) = (true)) → ((((decide (thickV st pl ho ge p h ffl (Int.ofNat y1) < sfL0 th (thickV st pl ho ge p h ffl (perI st ho ge)))) = (false)) → ((((IntKind.i64) = (IntKind.i64)) ∧ ((if th = (0 : Int) then (0 : Int) else if thickV st pl ho ge p h ffl (perI st ho ge) = (0 : Int) then (0 : Int) else wishV st pl ho ge p h ffl th) = (IntKind.wrap IntKind.i64 (IntKind.wrap IntKind.i64 (sfPer th (thickV st pl ho ge p h ffl (perI st ho ge)) * perI st ho ge) + Int.ofNat y1)))) ∧ (((decide (th = (0 : Int)) || !decide (thickV st pl ho ge p h ffl (perI st ho ge) = (0 : Int))) = (true)) ∧ True))) ∧ (((decide (thickV st pl ho ge p h ffl (Int.ofNat y1) < sfL0 th (thickV st pl ho ge p h ffl (perI st ho ge)))) = (true)) → (∃ y2 : Nat, (((y2 ≤ Int.toNat (perI st ho ge) + (1 : Nat) ∧ (∀ y3 : Nat, (y3 < y2 → thickV st pl ho ge p h ffl (↑y3 : Int) < sfL0 th (thickV st pl ho ge p h ffl (perI st ho ge))))) ∧ Int.toNat (perI st ho ge) + (1 : Nat) - y2 < Int.toNat (perI st ho ge) + (1 : Nat) - y1) ∧ (((true = true) ∧ ((qrefSteps21 st pl ho ge) ∧ ((((Ref.root (0) (4)) = (Ref.root (0) (4))) ∧ (((FD.list [Sh.list [Sh.int IntKind.i64]] nfl ffl) = (FD.list [Sh.list [Sh.int IntKind.i64]] nfl ffl)) ∧ (true = true))) ∧ ((qrefSteps22 p h th) ∧ ((((1, 1) ∈ ([(2, 2), (1, 1)] : List (Nat × Nat))) ∧ ((0) = (0))) ∧ ((((2, 2) ∈ ([(2, 2), (1, 1)] : List (Nat × Nat))) ∧ ((0) = (0))) ∧ ((((IntKind.i64) = (IntKind.i64)) ∧ (((0 : Int)) = ((0 : Int)))) ∧ ((false = false) ∧ ((((IntKind.i64) = (IntKind.i64)) ∧ ((perI st ho ge) = (perI st ho ge))) ∧ ((((IntKind.i64) = (IntKind.i64)) ∧ ((thickV st pl ho ge p h ffl (perI st ho ge)) = (thickV st pl ho ge p h ffl (perI st ho ge)))) ∧ ((((IntKind.i64) = (IntKind.i64)) ∧ ((sfPer th (thickV st pl ho ge p h ffl (perI st ho ge))) = (sfPer th (thickV st pl ho ge p h ffl (perI st ho ge))))) ∧ ((((IntKind.i64) = (IntKind.i64)) ∧ ((sfL0 th (thickV st pl ho ge p h ffl (perI st ho ge))) = (sfL0 th (thickV st pl ho ge p h ffl (perI st ho ge))))) ∧ ((((IntKind.i64) = (IntKind.i64)) ∧ ((Int.ofNat y2) = (IntKind.wrap IntKind.i64 (Int.ofNat y1 + (1 : Int))))) ∧ True))))))))))))) ∧ (((((47 : TypeId)) = ((47 : TypeId))) ∧ (((4) = (4)) ∧ (qrefSteps21 st pl ho ge))) ∧ (((((75 : TypeId)) = ((75 : TypeId))) ∧ (((3) = (3)) ∧ (qrefSteps22 p h th))) ∧ True)))))))) ∧ (((refThickC ([FD.int IntKind.i64 st, FD.int IntKind.i64 pl, FD.int IntKind.i64 ho, FD.int IntKind.i64 ge] ++ FD.list [Sh.list [Sh.int IntKind.i64]] nfl ffl :: ([FD.int IntKind.i64 p, FD.int IntKind.i64 h, FD.int IntKind.i64 (Int.ofNat y1)] ++ []))) = (false)) → False))) ∧ (((decide (perI st ho ge < Int.ofNat y1)) = (true)) → ((qrefSteps23 st pl ho ge ffl p h th) ∧ (((decide (th = (0 : Int)) || !decide (thickV st pl ho ge p h ffl (perI st ho ge) = (0 : Int))) = (false)) ∧ True))))))
theorem refSteps2_ok : FnOk (mkR smX gsW) Try.prog η0 44 (FI.of Try.f44 true) refSteps2S (.tup [.one (.int .i64), .one .bool]) refSteps2C refSteps2R := by
  refine fnOk_of0 smX_ok gsW_ok Try.fok44 (fun fds => match fds with | [.int _ st, .int _ pl, .int _ ho, .int _ ge, .list _ nfl ffl, .int _ p, .int _ h, .int _ th] => refSteps2I st pl ho ge nfl ffl p h th | _ => alts fun _ => []) ?_
  intro fds hf hc
  obtain ⟨st, ds0, rfl, hf1⟩ := hf.int
  obtain ⟨pl, ds1, rfl, hf2⟩ := hf1.int
  obtain ⟨ho, ds2, rfl, hf3⟩ := hf2.int
  obtain ⟨ge, ds3, rfl, hf4⟩ := hf3.int
  obtain ⟨nfl, ffl, ds4, rfl, gfl, hf5⟩ := hf4.list
  obtain ⟨p, ds5, rfl, hf6⟩ := hf5.int
  obtain ⟨h, ds6, rfl, hf7⟩ := hf6.int
  obtain ⟨th, ds7, rfl, hf8⟩ := hf7.int
  obtain rfl := hf8.nil
  have hc : (decide (flowE st pl ho ge nfl ffl = 0) && (decide (partE pl ho p h = 0) && (decide (0 ≤ th) && decide (th ≤ 500000000)))) = true := hc
  have hvc : (vcF smX gsW (FI.of Try.f44 true) refSteps2S (.tup [.one (.int .i64), .one .bool]) (refSteps2I st pl ho ge nfl ffl p h th) noR [.int .i64 st, .int .i64 pl, .int .i64 ho, .int .i64 ge, .list [.list [.int .i64]] nfl ffl, .int .i64 p, .int .i64 h, .int .i64 th] (refSteps2R [.int .i64 st, .int .i64 pl, .int .i64 ho, .int .i64 ge, .list [.list [.int .i64]] nfl ffl, .int .i64 p, .int .i64 h, .int .i64 th])) =
    ((true = true) ∧ ((((refPeriodC ([FD.int IntKind.i64 st, FD.int IntKind.i64 pl, FD.int IntKind.i64 ho, FD.int IntKind.i64 ge] ++ [])) = (true)) → ((((refThickC ([FD.int IntKind.i64 st, FD.int IntKind.i64 pl, FD.int IntKind.i64 ho, FD.int IntKind.i64 ge] ++ FD.list [Sh.list [Sh.int IntKind.i64]] nfl ffl :: ([FD.int IntKind.i64 p, FD.int IntKind.i64 h, FD.int IntKind.i64 (perI st ho ge)] ++ []))) = (true)) → ((((decide (th = (0 : Int))) = (true)) → ((qrefSteps23 st pl ho ge ffl p h th) ∧ (((decide (th = (0 : Int)) || !decide (thickV st pl ho ge p h ffl (perI st ho ge) = (0 : Int))) = (true)) ∧ True))) ∧ (((decide (th = (0 : Int))) = (false)) → ((((decide (thickV st pl ho ge p h ffl (perI st ho ge) = (0 : Int))) = (true)) → ((qrefSteps23 st pl ho ge ffl p h th) ∧ (((decide (th = (0 : Int)) || !decide (thickV st pl ho ge p h ffl (perI st ho ge) = (0 : Int))) = (false)) ∧ True))) ∧ (((decide (thickV st pl ho ge p h ffl (perI st ho ge) = (0 : Int))) = (false)) → ((((!decide (thickV st pl ho ge p h ffl (perI st ho ge) = (0 : Int))) = (true)) → ((((!decide (thickV st pl ho ge p h ffl (perI st ho ge) = (0 : Int))) = (true)) → ((((decide (Int.tmod (IntKind.wrap IntKind.i64 (th - (1 : Int))) (thickV st pl ho ge p h ffl (perI st ho ge)) < (0 : Int))) = (true)) → (∃ y0 : Nat, ((∃ y1 : Nat, (((y1 ≤ Int.toNat (perI st ho ge) + (1 : Nat) ∧ (∀ y2 : Nat, (y2 < y1 → thickV st pl ho ge p h ffl (↑y2 : Int) < sfL0 th (thickV st pl ho ge p h ffl (perI st ho ge))))) ∧ True) ∧ (((true = true) ∧ ((qrefSteps21 st pl ho ge) ∧ ((((Ref.root (0) (4)) = (Ref.root (0) (4))) ∧ (((FD.list [Sh.list [Sh.int IntKind.i64]] nfl ffl) = (FD.list [Sh.list [Sh.int IntKind.i64]] nfl ffl)) ∧ (true = true))) ∧ ((qrefSteps22 p h th) ∧ ((((1, 1) ∈ ([(2, 2), (1, 1)] : List (Nat × Nat))) ∧ ((0) = (0))) ∧ ((((2, 2) ∈ ([(2, 2), (1, 1)] : List (Nat × Nat))) ∧ ((0) = (0))) ∧ ((((IntKind.i64) = (IntKind.i64)) ∧ (((0 : Int)) = ((0 : Int)))) ∧ ((false = false) ∧ ((((IntKind.i64) = (IntKind.i64)) ∧ ((perI st ho ge) = (perI st ho ge))) ∧ ((((IntKind.i64) = (IntKind.i64)) ∧ ((thickV st pl ho ge p h ffl (perI st ho ge)) = (thickV st pl ho ge p h ffl (perI st ho ge)))) ∧ ((((IntKind.i64) = (IntKind.i64)) ∧ ((sfPer th (thickV st pl ho ge p h ffl (perI st ho ge))) = (IntKind.wrap IntKind.i64 (IntKind.wrap IntKind.i64 (Int.tdiv (IntKind.wrap IntKind.i64 (th - (1 : Int))) (thickV st pl ho ge p h ffl (perI st ho ge))) - (1 : Int))))) ∧ ((((IntKind.i64) = (IntKind.i64)) ∧ ((sfL0 th (thickV st pl ho ge p h ffl (perI st ho ge))) = (IntKind.wrap IntKind.i64 (th - IntKind.wrap IntKind.i64 (IntKind.wrap IntKind.i64 (IntKind.wrap IntKind.i64 (Int.tdiv (IntKind.wrap IntKind.i64 (th - (1 : Int))) (thickV st pl ho ge p h ffl (perI st ho ge))) - (1 : Int)) * thickV st pl ho ge p h ffl (perI st ho ge)))))) ∧ ((((IntKind.i64) = (IntKind.i64)) ∧ ((Int.ofNat y1) = ((0 : Int)))) ∧ True))))))))))))) ∧ (((((47 : TypeId)) = ((47 : Nat))) ∧ (((4) = (4)) ∧ (qrefSteps21 st pl ho ge))) ∧ (((((75 : TypeId)) = ((75 : Nat))) ∧ (((3) = (3)) ∧ (qrefSteps22 p h th))) ∧ True))))) ∧ (qrefSteps20 st pl ho ge nfl ffl p h th)))) ∧ (((decide (Int.tmod (IntKind.wrap IntKind.i64 (th - (1 : Int))) (thickV st pl ho ge p h ffl (perI st ho ge)) < (0 : Int))) = (false)) → (∃ y0 : Nat, ((∃ y1 : Nat, (((y1 ≤ Int.toNat (perI st ho ge) + (1 : Nat) ∧ (∀ y2 : Nat, (y2 < y1 → thickV st pl ho ge p h ffl (↑y2 : Int) < sfL0 th (thickV st pl ho ge p h ffl (perI st ho ge))))) ∧ True) ∧ (((true = true) ∧ ((qrefSteps21 st pl ho ge) ∧ ((((Ref.root (0) (4)) = (Ref.root (0) (4))) ∧ (((FD.list [Sh.list [Sh.int IntKind.i64]] nfl ffl) = (FD.list [Sh.list [Sh.int IntKind.i64]] nfl ffl)) ∧ (true = true))) ∧ ((qrefSteps22 p h th) ∧ ((((1, 1) ∈ ([(2, 2), (1, 1)] : List (Nat × Nat))) ∧ ((0) = (0))) ∧ ((((2, 2) ∈ ([(2, 2), (1, 1)] : List (Nat × Nat))) ∧ ((0) = (0))) ∧ ((((IntKind.i64) = (IntKind.i64)) ∧ (((0 : Int)) = ((0 : Int)))) ∧ ((false = false) ∧ ((((IntKind.i64) = (IntKind.i64)) ∧ ((perI st ho ge) = (perI st ho ge))) ∧ ((((IntKind.i64) = (IntKind.i64)) ∧ ((thickV st pl ho ge p h ffl (perI st ho ge)) = (thickV st pl ho ge p h ffl (perI st ho ge)))) ∧ ((((IntKind.i64) = (IntKind.i64)) ∧ ((sfPer th (thickV st pl ho ge p h ffl (perI st ho ge))) = (IntKind.wrap IntKind.i64 (Int.tdiv (IntKind.wrap IntKind.i64 (th - (1 : Int))) (thickV st pl ho ge p h ffl (perI st ho ge)))))) ∧ ((((IntKind.i64) = (IntKind.i64)) ∧ ((sfL0 th (thickV st pl ho ge p h ffl (perI st ho ge))) = (IntKind.wrap IntKind.i64 (th - IntKind.wrap IntKind.i64 (IntKind.wrap IntKind.i64 (Int.tdiv (IntKind.wrap IntKind.i64 (th - (1 : Int))) (thickV st pl ho ge p h ffl (perI st ho ge))) * thickV st pl ho ge p h ffl (perI st ho ge)))))) ∧ ((((IntKind.i64) = (IntKind.i64)) ∧ ((Int.ofNat y1) = ((0 : Int)))) ∧ True))))))))))))) ∧ (((((47 : TypeId)) = ((47 : Nat))) ∧ (((4) = (4)) ∧ (qrefSteps21 st pl ho ge))) ∧ (((((75 : TypeId)) = ((75 : Nat))) ∧ (((3) = (3)) ∧ (qrefSteps22 p h th))) ∧ True))))) ∧ (qrefSteps20 st pl ho ge nfl ffl p h th)))))) ∧ (((!decide (thickV st pl ho ge p h ffl (perI st ho ge) = (0 : Int))) = (false)) → False))) ∧ (((!decide (thickV st pl ho ge p h ffl (perI st ho ge) = (0 : Int))) = (false)) → False))))))) ∧ (((refThickC ([FD.int IntKind.i64 st, FD.int IntKind.i64 pl, FD.int IntKind.i64 ho, FD.int IntKind.i64 ge] ++ FD.list [Sh.list [Sh.int IntKind.i64]] nfl ffl :: ([FD.int IntKind.i64 p, FD.int IntKind.i64 h, FD.int IntKind.i64 (perI st ho ge)] ++ []))) = (false)) → False))) ∧ (((refPeriodC ([FD.int IntKind.i64 st, FD.int IntKind.i64 pl, FD.int IntKind.i64 ho, FD.int IntKind.i64 ge] ++ [])) = (false)) → False))) := by kernel_rfl
  refine hvc.mpr ?_
  clear hvc
  dsimp only [qrefSteps21, qrefSteps22, qrefSteps23, qrefSteps20]
  simp only [Bool.and_eq_true, decide_eq_true_eq] at hc
  obtain ⟨h1, h2, h3, h4⟩ := hc
  obtain ⟨e1, e2, e3, e4⟩ := flowE_ok h1
  have hF := flowE_fl h1
  have e5 := rackE_ok e1
  have e6 := partE_ok e5 h2
  obtain ⟨S, P, H, G, ⟨rfl, rfl, rfl, rfl⟩, c1, c2, c3, c4, c5, c6, c7, c8⟩ := rack_nat e5
  obtain ⟨Q, K, ⟨rfl, rfl⟩, c9, c10⟩ := part_nat e6
  simp only [Int.toNat_natCast] at hF
  have hper : perI (S : Int) H G = (perN S H G : Nat) := perI_nat (by omega) (by omega)
  have hpp := perN_pos G c1 c5
  have hb := perN_le S H G
  have hSH : S * H ≤ 24 * 12 := Nat.mul_le_mul c2 c6
  have hrp : refPeriodC [.int .i64 S, .int .i64 P, .int .i64 H, .int .i64 G] = true := e5
  have hsE : ∀ t : Nat, t ≤ 1000 → stepsE (t : Int) = 0 := fun t ht => by unfold stepsE; rw [if_pos (by omega)]
  have hT : ∀ t : Nat, t ≤ 1000 → refThickC [.int .i64 S, .int .i64 P, .int .i64 H, .int .i64 G, .list [.list [.int .i64]] nfl ffl, .int .i64 Q, .int .i64 K, .int .i64 (t : Int)] = true := fun t ht => by
    simp only [refThickC, h1, h2, hsE t ht, decide_true, Bool.and_self]
  have hV : ∀ t : Nat, t ≤ 1000 → thickV (S : Int) P H G Q K ffl (t : Int) = FT ffl S P H G Q K t := fun t ht => thickV_FT c1 c2 c5 c6 hF (by omega)
  rw [hper]
  simp only [hper]
  have hall := FT_bd hF P G Q K (perN S H G)
  have hVp := hV (perN S H G) (by omega)
  by_cases ht0 : th = 0
  · simp [hrp, hT (perN S H G) (by omega), ht0, hper]
  · by_cases ha : thickV (S : Int) P H G Q K ffl ((perN S H G : Nat) : Int) = 0
    · simp [hrp, hT (perN S H G) (by omega), ht0, ha, hper]
    · rw [hVp] at ha
      obtain ⟨n1, n2, n3, n4, n5, n6⟩ := sf_nice (th := th) (all := FT ffl S P H G Q K (perN S H G)) (p := (perN S H G : Nat)) (by omega) (by omega) (by omega) (by omega) (by omega) (by omega)
      simp [hrp, hT (perN S H G) (by omega), ht0, hper, hVp, ha]
      have hw : IntKind.i64.wrap (th - 1) = th - 1 := wrap_id (by omega) (by omega)
      have hmod : 0 ≤ (th - 1).tmod (FT ffl S P H G Q K (perN S H G)) := Int.tmod_nonneg _ (by omega)
      have hwv : wishV (S : Int) P H G Q K ffl th = sfRun (flowAt S H ffl) (sfL0 th (FT ffl S P H G Q K (perN S H G))) (sfS0 th (FT ffl S P H G Q K (perN S H G)) (perN S H G : Nat)) (placesL S P G Q K (perN S H G)) := by
        simp only [wishV, sfX, hper, hVp, Int.toNat_natCast]
      have e6 : (th - 1) / FT ffl S P H G Q K (perN S H G) * ((perN S H G : Nat) : Int) ≤ 500000000 * 1000 := Int.mul_le_mul n6 (by omega) (by omega) (by omega)
      have e7 : 0 ≤ (th - 1) / FT ffl S P H G Q K (perN S H G) * ((perN S H G : Nat) : Int) := Int.mul_nonneg n5 (by omega)
      refine ⟨fun hneg => by rw [hw] at hneg; omega, fun _ => ⟨⟨0, ⟨by omega, fun u hu => by omega⟩, rfl, rfl, rfl⟩, fun y hy hlow => ?_⟩⟩
      have hyp : y ≤ perN S H G := by
        rcases Nat.lt_or_ge (perN S H G) y with hh | hh
        · have := hlow _ hh
          rw [hVp, n2] at this
          omega
        · exact hh
      refine ⟨fun _ => ⟨fun _ => ⟨fun hge => ?_, fun hlt => ⟨y + 1, ⟨⟨by omega, fun u hu => ?_⟩, by omega⟩, by rw [wrap_id (by omega) (by omega)]; rfl⟩⟩, hT y (by omega)⟩, hyp⟩
      · rw [hV y (by omega)] at hge
        rw [hwv, n3, n1, wrap_id (n := (th - 1) / FT ffl S P H G Q K (perN S H G) * ((perN S H G : Nat) : Int)) (by omega) (by omega)]
        rw [n2] at hge hlow ⊢
        cases y with
        | zero =>
          have : FT ffl S P H G Q K 0 = 0 := rfl
          omega
        | succ t =>
          rw [wrap_id (by omega) (by omega)]
          exact sfRun_at hF P G Q K (by omega) (by omega) e7 (by omega) (by omega) hyp (fun u hu => by have := hlow u (by omega); rwa [hV u (by omega)] at this) hge
      · by_cases e : u = y
        · subst e; exact hlt
        · exact hlow u (by omega)

end
end Go.Ex


namespace Go.Ex
open Go Go.Proofs Go.RowKit
noncomputable section
set_option maxRecDepth 1000000

def smY : T Smf := (T.set smX 44 (some (gFd refSteps2S (.tup [.one (.int .i64), .one .bool]) refSteps2C refSteps2R)))
theorem smY_ok : Tab SmOk smY := (Tab.set smX_ok (by kernel_rfl) (smOk_of smX_ok gsW_ok refSteps2_ok rfl))
/-- The first step at which a sum reaches a number. -/
theorem first_reach {F : Nat → Int} {l : Int} (h0 : F 0 < l) : ∀ {p : Nat}, l ≤ F p → ∃ t, t + 1 ≤ p ∧ (∀ u, u ≤ t → F u < l) ∧ l ≤ F (t + 1)
  | 0, h => by omega
  | p + 1, h => by
    by_cases hp : ∃ u, u ≤ p ∧ l ≤ F u
    · obtain ⟨u, hu, hl⟩ := hp
      obtain ⟨t, h1, h2, h3⟩ := first_reach (F := F) h0 (p := u) hl
      exact ⟨t, by omega, h2, h3⟩
    · exact ⟨p, Nat.le_refl _, fun u hu => by
        rcases Int.lt_or_le (F u) l with hh | hh
        · exact hh
        · exact absurd ⟨u, hu, hh⟩ hp, h⟩
/-- What the least steps are. -/
theorem wish_char {f : Nat → Nat → FD} {S P H G Q K : Nat} {th : Int} (c1 : 1 ≤ S) (c2 : S ≤ 24) (c5 : 1 ≤ H) (c6 : H ≤ 12) (hF : FlowOk f S H) (h1 : 1 ≤ th) (h2 : th ≤ 500000000) (ha : thickV (S : Int) P H G Q K f (perI (S : Int) H G) ≠ 0) :
    ∃ n : Nat, 1 ≤ n ∧ wishV (S : Int) P H G Q K f th = (n : Int) ∧ (n : Int) ≤ 1000000000000 ∧ FT f S P H G Q K (n - 1) < th ∧ th ≤ FT f S P H G Q K n := by
  have hper : perI (S : Int) H G = (perN S H G : Nat) := perI_nat (by omega) (by omega)
  have hpp := perN_pos G c1 c5
  have hb := perN_le S H G
  have hSH : S * H ≤ 24 * 12 := Nat.mul_le_mul c2 c6
  have hVp : thickV (S : Int) P H G Q K f ((perN S H G : Nat) : Int) = FT f S P H G Q K (perN S H G) := thickV_FT c1 c2 c5 c6 hF (by omega)
  have hall := FT_bd hF P G Q K (perN S H G)
  have hwv : wishV (S : Int) P H G Q K f th = sfRun (flowAt S H f) (sfL0 th (FT f S P H G Q K (perN S H G))) (sfS0 th (FT f S P H G Q K (perN S H G)) (perN S H G : Nat)) (placesL S P G Q K (perN S H G)) := by
    simp only [wishV, sfX, hper, hVp, Int.toNat_natCast]
  rw [hper, hVp] at ha
  obtain ⟨n1, n2, n3, n4, n5, n6⟩ := sf_nice (th := th) (all := FT f S P H G Q K (perN S H G)) (p := (perN S H G : Nat)) h1 h2 (by omega) (by omega) (by omega) (by omega)
  have h00 : FT f S P H G Q K 0 = 0 := rfl
  obtain ⟨t, t1, t2, t3⟩ := first_reach (F := FT f S P H G Q K) (l := th - (th - 1) / FT f S P H G Q K (perN S H G) * FT f S P H G Q K (perN S H G)) (by omega) (p := perN S H G) (by omega)
  have e6 : (th - 1) / FT f S P H G Q K (perN S H G) * ((perN S H G : Nat) : Int) ≤ 500000000 * 1000 := Int.mul_le_mul n6 (by omega) (by omega) (by omega)
  have e7 : 0 ≤ (th - 1) / FT f S P H G Q K (perN S H G) * ((perN S H G : Nat) : Int) := Int.mul_nonneg n5 (by omega)
  have hrun := sfRun_at hF P G Q K (l := th - (th - 1) / FT f S P H G Q K (perN S H G) * FT f S P H G Q K (perN S H G)) (s := (th - 1) / FT f S P H G Q K (perN S H G) * ((perN S H G : Nat) : Int)) (n := perN S H G) (by omega) (by omega) e7 (by omega) (by omega) t1 t2 t3
  obtain ⟨d, hd⟩ := Int.eq_ofNat_of_zero_le n5
  have hfull : ∀ u, FT f S P H G Q K (perN S H G * d + u) = (d : Int) * FT f S P H G Q K (perN S H G) + FT f S P H G Q K u := fun u => by
    rw [FT_per c1 c5 (perN S H G * d + u), Nat.mul_add_mod, Nat.mul_add_div hpp, FT_per (f := f) (P := P) (G := G) (Q := Q) (K := K) c1 c5 u, Int.natCast_add, Int.add_mul]
    omega
  refine ⟨perN S H G * d + (t + 1), by omega, ?_, ?_, ?_, ?_⟩
  · rw [hwv, n2, n3, hrun, hd, Int.natCast_add (perN S H G * d), Int.natCast_mul, Int.mul_comm]
  · rw [Int.natCast_add (perN S H G * d), Int.natCast_mul, Int.mul_comm, ← hd]
    omega
  · rw [show perN S H G * d + (t + 1) - 1 = perN S H G * d + t by omega, hfull, ← hd]
    have := t2 t (Nat.le_refl _)
    omega
  · rw [hfull, ← hd]
    omega
def lawWishesS : List PT := [.agg [.int .i64, .int .i64, .int .i64, .int .i64], .one (.list [.list [.int .i64]]), .agg [.int .i64, .int .i64, .int .i64]]
def lawWishesC : List FD → Bool
  | [.int _ _, .int _ _, .int _ _, .int _ _, .list _ _ _, .int _ _, .int _ _, .int _ _] => true
  | _ => false
def lawWishesR : List FD → List FD
  | [.int _ _, .int _ _, .int _ _, .int _ _, .list _ _ _, .int _ _, .int _ _, .int _ _] => [.bool true]
  | _ => []
def lawWishesI (_st : Int) (_pl : Int) (_ho : Int) (_ge : Int) (_nfl : Nat) (_ffl : Nat → Nat → FD) (_p : Int) (_h : Int) (_th : Int) : Nat → AFam := alts (fun _ => [])
abbrev qlawWishes1 (st : Int) (pl : Int) (ho : Int) (ge : Int) (nfl : Nat) (ffl : Nat → Nat → FD) (p : Int) (h : Int) (th : Int) : Prop := (true = decide ((if wishE st pl ho ge p h nfl ffl th = (0 : Int) then if th = (0 : Int) then (0 : Int) else if thickV st pl ho ge p h ffl (perI st ho ge) = (0 : Int) then (0 : Int) else wishV st pl ho ge p h ffl th else (0 : Int)) = (0 : Int)))
abbrev qlawWishes4 (st : Int) (pl : Int) (ho : Int) (ge : Int) (nfl : Nat) (ffl : Nat → Nat → FD) (p : Int) (h : Int) (th : Int) : Prop := (((decide ((0 : Int) ≤ th) && decide (th ≤ (500000000 : Int))) = (false)) → ((((decide ((if wishE st pl ho ge p h nfl ffl th = (0 : Int) then if th = (0 : Int) then (0 : Int) else if thickV st pl ho ge p h ffl (perI st ho ge) = (0 : Int) then (17 : Int) else (0 : Int) else wishE st pl ho ge p h nfl ffl th) = (2 : Int))) = (true)) → (qlawWishes1 st pl ho ge nfl ffl p h th)) ∧ (((decide ((if wishE st pl ho ge p h nfl ffl th = (0 : Int) then if th = (0 : Int) then (0 : Int) else if thickV st pl ho ge p h ffl (perI st ho ge) = (0 : Int) then (17 : Int) else (0 : Int) else wishE st pl ho ge p h nfl ffl th) = (2 : Int))) = (false)) → (true = false))))
abbrev qlawWishes5 (st : Int) (pl : Int) (ho : Int) (ge : Int) (nfl : Nat) (ffl : Nat → Nat → FD) (p : Int) (h : Int) (th : Int) : Prop := (first3 (flowE st pl ho ge nfl ffl) (partE pl ho p h) (stepsE (IntKind.wrap IntKind.i64 ((if wishE st pl ho ge p h nfl ffl th = (0 : Int) then if th = (0 : Int) then (0 : Int) else if thickV st pl ho ge p h ffl (perI st ho ge) = (0 : Int) then (0 : Int) else wishV st pl ho ge p h ffl th else (0 : Int)) - (1 : Int)))) = (0 : Int))
abbrev qlawWishes0 (st : Int) (pl : Int) (ho : Int) (ge : Int) (nfl : Nat) (ffl : Nat → Nat → FD) (p : Int) (h : Int) (th : Int) : Prop := ((((refSteps2C ([FD.int IntKind.i64 st, FD.int IntKind.i64 pl, FD.int IntKind.i64 ho, FD.int IntKind.i64 ge] ++ FD.list [Sh.list [Sh.int IntKind.i64]] nfl ffl :: ([FD.int IntKind.i64 p, FD.int IntKind.i64 h, FD.int IntKind.i64 th] ++ []))) = (true)) → ((((decide (th = (0 : Int)) || !decide (thickV st pl ho ge p h ffl (perI st ho ge) = (0 : Int))) = (false)) → ((((decide ((if wishE st pl ho ge p h nfl ffl th = (0 : Int) then if th = (0 : Int) then (0 : Int) else if thickV st pl ho ge p h ffl (perI st ho ge) = (0 : Int) then (17 : Int) else (0 : Int) else wishE st pl ho ge p h nfl ffl th) = (17 : Int))) = (true)) → (qlawWishes1 st pl ho ge nfl ffl p h th)) ∧ (((decide ((if wishE st pl ho ge p h nfl ffl th = (0 : Int) then if th = (0 : Int) then (0 : Int) else if thickV st pl ho ge p h ffl (perI st ho ge) = (0 : Int) then (17 : Int) else (0 : Int) else wishE st pl ho ge p h nfl ffl th) = (17 : Int))) = (false)) → (true = false)))) ∧ (((decide (th = (0 : Int)) || !decide (thickV st pl ho ge p h ffl (perI st ho ge) = (0 : Int))) = (true)) → ((((decide ((if wishE st pl ho ge p h nfl ffl th = (0 : Int) then if th = (0 : Int) then (0 : Int) else if thickV st pl ho ge p h ffl (perI st ho ge) = (0 : Int) then (17 : Int) else (0 : Int) else wishE st pl ho ge p h nfl ffl th) = (0 : Int))) = (true)) → ((((decide ((if wishE st pl ho ge p h nfl ffl th = (0 : Int) then if th = (0 : Int) then (0 : Int) else if thickV st pl ho ge p h ffl (perI st ho ge) = (0 : Int) then (0 : Int) else wishV st pl ho ge p h ffl th else (0 : Int)) = if th = (0 : Int) then (0 : Int) else if thickV st pl ho ge p h ffl (perI st ho ge) = (0 : Int) then (0 : Int) else wishV st pl ho ge p h ffl th)) = (false)) → (true = false)) ∧ (((decide ((if wishE st pl ho ge p h nfl ffl th = (0 : Int) then if th = (0 : Int) then (0 : Int) else if thickV st pl ho ge p h ffl (perI st ho ge) = (0 : Int) then (0 : Int) else wishV st pl ho ge p h ffl th else (0 : Int)) = if th = (0 : Int) then (0 : Int) else if thickV st pl ho ge p h ffl (perI st ho ge) = (0 : Int) then (0 : Int) else wishV st pl ho ge p h ffl th)) = (true)) → ((((decide ((if wishE st pl ho ge p h nfl ffl th = (0 : Int) then if th = (0 : Int) then (0 : Int) else if thickV st pl ho ge p h ffl (perI st ho ge) = (0 : Int) then (0 : Int) else wishV st pl ho ge p h ffl th else (0 : Int)) < (1 : Int))) = (true)) → (true = true)) ∧ (((decide ((if wishE st pl ho ge p h nfl ffl th = (0 : Int) then if th = (0 : Int) then (0 : Int) else if thickV st pl ho ge p h ffl (perI st ho ge) = (0 : Int) then (0 : Int) else wishV st pl ho ge p h ffl th else (0 : Int)) < (1 : Int))) = (false)) → ((((decide ((1000000 : Int) < if wishE st pl ho ge p h nfl ffl th = (0 : Int) then if th = (0 : Int) then (0 : Int) else if thickV st pl ho ge p h ffl (perI st ho ge) = (0 : Int) then (0 : Int) else wishV st pl ho ge p h ffl th else (0 : Int))) = (true)) → (true = true)) ∧ (((decide ((1000000 : Int) < if wishE st pl ho ge p h nfl ffl th = (0 : Int) then if th = (0 : Int) then (0 : Int) else if thickV st pl ho ge p h ffl (perI st ho ge) = (0 : Int) then (0 : Int) else wishV st pl ho ge p h ffl th else (0 : Int))) = (false)) → ((((copyListsC [FD.list [Sh.list [Sh.int IntKind.i64]] nfl ffl]) = (true)) → (((true = true) → ((((copyListsC [FD.list [Sh.list [Sh.int IntKind.i64]] nfl ffl]) = (true)) → (((true = true) → ((((decide (first3 (flowE st pl ho ge nfl ffl) (partE pl ho p h) (stepsE (if wishE st pl ho ge p h nfl ffl th = (0 : Int) then if th = (0 : Int) then (0 : Int) else if thickV st pl ho ge p h ffl (perI st ho ge) = (0 : Int) then (0 : Int) else wishV st pl ho ge p h ffl th else (0 : Int))) = (0 : Int))) = (true)) → ((((decide (qlawWishes5 st pl ho ge nfl ffl p h th)) = (true)) → ((((decide ((if first3 (flowE st pl ho ge nfl ffl) (partE pl ho p h) (stepsE (if wishE st pl ho ge p h nfl ffl th = (0 : Int) then if th = (0 : Int) then (0 : Int) else if thickV st pl ho ge p h ffl (perI st ho ge) = (0 : Int) then (0 : Int) else wishV st pl ho ge p h ffl th else (0 : Int))) = (0 : Int) then thickV st pl ho ge p h ffl (if wishE st pl ho ge p h nfl ffl th = (0 : Int) then if th = (0 : Int) then (0 : Int) else if thickV st pl ho ge p h ffl (perI st ho ge) = (0 : Int) then (0 : Int) else wishV st pl ho ge p h ffl th else (0 : Int)) else (0 : Int)) < th)) = (true)) → (true = false)) ∧ (((decide ((if first3 (flowE st pl ho ge nfl ffl) (partE pl ho p h) (stepsE (if wishE st pl ho ge p h nfl ffl th = (0 : Int) then if th = (0 : Int) then (0 : Int) else if thickV st pl ho ge p h ffl (perI st ho ge) = (0 : Int) then (0 : Int) else wishV st pl ho ge p h ffl th else (0 : Int))) = (0 : Int) then thickV st pl ho ge p h ffl (if wishE st pl ho ge p h nfl ffl th = (0 : Int) then if th = (0 : Int) then (0 : Int) else if thickV st pl ho ge p h ffl (perI st ho ge) = (0 : Int) then (0 : Int) else wishV st pl ho ge p h ffl th else (0 : Int)) else (0 : Int)) < th)) = (false)) → (true = decide ((if first3 (flowE st pl ho ge nfl ffl) (partE pl ho p h) (stepsE (IntKind.wrap IntKind.i64 ((if wishE st pl ho ge p h nfl ffl th = (0 : Int) then if th = (0 : Int) then (0 : Int) else if thickV st pl ho ge p h ffl (perI st ho ge) = (0 : Int) then (0 : Int) else wishV st pl ho ge p h ffl th else (0 : Int)) - (1 : Int)))) = (0 : Int) then thickV st pl ho ge p h ffl (IntKind.wrap IntKind.i64 ((if wishE st pl ho ge p h nfl ffl th = (0 : Int) then if th = (0 : Int) then (0 : Int) else if thickV st pl ho ge p h ffl (perI st ho ge) = (0 : Int) then (0 : Int) else wishV st pl ho ge p h ffl th else (0 : Int)) - (1 : Int))) else (0 : Int)) < th))))) ∧ (((decide (qlawWishes5 st pl ho ge nfl ffl p h th)) = (false)) → (true = false)))) ∧ (((decide (first3 (flowE st pl ho ge nfl ffl) (partE pl ho p h) (stepsE (if wishE st pl ho ge p h nfl ffl th = (0 : Int) then if th = (0 : Int) then (0 : Int) else if thickV st pl ho ge p h ffl (perI st ho ge) = (0 : Int) then (0 : Int) else wishV st pl ho ge p h ffl th else (0 : Int))) = (0 : Int))) = (false)) → (true = false)))) ∧ ((true = false) → False))) ∧ (((copyListsC [FD.list [Sh.list [Sh.int IntKind.i64]] nfl ffl]) = (false)) → False))) ∧ ((true = false) → False))) ∧ (((copyListsC [FD.list [Sh.list [Sh.int IntKind.i64]] nfl ffl]) = (false)) → False))))))))) ∧ (((decide ((if wishE st pl ho ge p h nfl ffl th = (0 : Int) then if th = (0 : Int) then (0 : Int) else if thickV st pl ho ge p h ffl (perI st ho ge) = (0 : Int) then (17 : Int) else (0 : Int) else wishE st pl ho ge p h nfl ffl th) = (0 : Int))) = (false)) → (true = false)))))) ∧ (((refSteps2C ([FD.int IntKind.i64 st, FD.int IntKind.i64 pl, FD.int IntKind.i64 ho, FD.int IntKind.i64 ge] ++ FD.list [Sh.list [Sh.int IntKind.i64]] nfl ffl :: ([FD.int IntKind.i64 p, FD.int IntKind.i64 h, FD.int IntKind.i64 th] ++ []))) = (false)) → False))
abbrev qlawWishes2 (st : Int) (pl : Int) (ho : Int) (ge : Int) (nfl : Nat) (ffl : Nat → Nat → FD) (p : Int) (h : Int) (th : Int) : Prop := ((((decide (flowE st pl ho ge nfl ffl = (0 : Int))) = (false)) → ((((decide ((if wishE st pl ho ge p h nfl ffl th = (0 : Int) then if th = (0 : Int) then (0 : Int) else if thickV st pl ho ge p h ffl (perI st ho ge) = (0 : Int) then (17 : Int) else (0 : Int) else wishE st pl ho ge p h nfl ffl th) = flowE st pl ho ge nfl ffl)) = (true)) → (qlawWishes1 st pl ho ge nfl ffl p h th)) ∧ (((decide ((if wishE st pl ho ge p h nfl ffl th = (0 : Int) then if th = (0 : Int) then (0 : Int) else if thickV st pl ho ge p h ffl (perI st ho ge) = (0 : Int) then (17 : Int) else (0 : Int) else wishE st pl ho ge p h nfl ffl th) = flowE st pl ho ge nfl ffl)) = (false)) → (true = false)))) ∧ (((decide (flowE st pl ho ge nfl ffl = (0 : Int))) = (true)) → (qlawWishes0 st pl ho ge nfl ffl p h th)))
abbrev qlawWishes3 (st : Int) (pl : Int) (ho : Int) (ge : Int) (nfl : Nat) (ffl : Nat → Nat → FD) (p : Int) (h : Int) (th : Int) : Prop := ((((decide (partE pl ho p h = (0 : Int))) = (false)) → ((((decide ((if wishE st pl ho ge p h nfl ffl th = (0 : Int) then if th = (0 : Int) then (0 : Int) else if thickV st pl ho ge p h ffl (perI st ho ge) = (0 : Int) then (17 : Int) else (0 : Int) else wishE st pl ho ge p h nfl ffl th) = partE pl ho p h)) = (true)) → (qlawWishes1 st pl ho ge nfl ffl p h th)) ∧ (((decide ((if wishE st pl ho ge p h nfl ffl th = (0 : Int) then if th = (0 : Int) then (0 : Int) else if thickV st pl ho ge p h ffl (perI st ho ge) = (0 : Int) then (17 : Int) else (0 : Int) else wishE st pl ho ge p h nfl ffl th) = partE pl ho p h)) = (false)) → (true = false)))) ∧ (((decide (partE pl ho p h = (0 : Int))) = (true)) → (qlawWishes0 st pl ho ge nfl ffl p h th)))
theorem lawWishes_ok : FnOk (mkR smY gsW) Try.prog η0 6 (FI.of Try.f6 true) lawWishesS (.one .bool) lawWishesC lawWishesR := by
  refine fnOk_of0 smY_ok gsW_ok Try.fok6 (fun fds => match fds with | [.int _ st, .int _ pl, .int _ ho, .int _ ge, .list _ nfl ffl, .int _ p, .int _ h, .int _ th] => lawWishesI st pl ho ge nfl ffl p h th | _ => alts fun _ => []) ?_
  intro fds hf hc
  obtain ⟨st, ds0, rfl, hf1⟩ := hf.int
  obtain ⟨pl, ds1, rfl, hf2⟩ := hf1.int
  obtain ⟨ho, ds2, rfl, hf3⟩ := hf2.int
  obtain ⟨ge, ds3, rfl, hf4⟩ := hf3.int
  obtain ⟨nfl, ffl, ds4, rfl, gfl, hf5⟩ := hf4.list
  obtain ⟨p, ds5, rfl, hf6⟩ := hf5.int
  obtain ⟨h, ds6, rfl, hf7⟩ := hf6.int
  obtain ⟨th, ds7, rfl, hf8⟩ := hf7.int
  obtain rfl := hf8.nil
  have hc : (true) = true := hc
  have hvc : (vcF smY gsW (FI.of Try.f6 true) lawWishesS (.one .bool) (lawWishesI st pl ho ge nfl ffl p h th) noR [.int .i64 st, .int .i64 pl, .int .i64 ho, .int .i64 ge, .list [.list [.int .i64]] nfl ffl, .int .i64 p, .int .i64 h, .int .i64 th] (lawWishesR [.int .i64 st, .int .i64 pl, .int .i64 ho, .int .i64 ge, .list [.list [.int .i64]] nfl ffl, .int .i64 p, .int .i64 h, .int .i64 th])) =
    ((true = true) ∧ (((true = true) → (((true = false) → (true = false)) ∧ ((true = true) → (((true = true) → ((((narrowB nfl ffl) = (false)) → (true = true)) ∧ (((narrowB nfl ffl) = (true)) → ((((copyListsC [FD.list [Sh.list [Sh.int IntKind.i64]] nfl ffl]) = (true)) → (((true = true) → (((true = true) → ((((decide (flowE st pl ho ge nfl ffl = (0 : Int))) = (true)) → (((true = true) → ((((decide (partE pl ho p h = (0 : Int))) = (true)) → (((true = true) → ((qlawWishes4 st pl ho ge nfl ffl p h th) ∧ (((decide ((0 : Int) ≤ th) && decide (th ≤ (500000000 : Int))) = (true)) → (qlawWishes3 st pl ho ge nfl ffl p h th)))) ∧ ((true = false) → False))) ∧ (((decide (partE pl ho p h = (0 : Int))) = (false)) → (qlawWishes3 st pl ho ge nfl ffl p h th)))) ∧ ((true = false) → False))) ∧ (((decide (flowE st pl ho ge nfl ffl = (0 : Int))) = (false)) → ((((decide (flowE st pl ho ge nfl ffl = (0 : Int))) = (true)) → (((true = true) → ((qlawWishes4 st pl ho ge nfl ffl p h th) ∧ (((decide ((0 : Int) ≤ th) && decide (th ≤ (500000000 : Int))) = (true)) → (qlawWishes2 st pl ho ge nfl ffl p h th)))) ∧ ((true = false) → False))) ∧ (((decide (flowE st pl ho ge nfl ffl = (0 : Int))) = (false)) → (qlawWishes2 st pl ho ge nfl ffl p h th)))))) ∧ ((true = false) → False))) ∧ ((true = false) → False))) ∧ (((copyListsC [FD.list [Sh.list [Sh.int IntKind.i64]] nfl ffl]) = (false)) → False))))) ∧ ((true = false) → False))))) ∧ ((true = false) → False))) := by kernel_rfl
  refine hvc.mpr ?_
  clear hvc
  dsimp only [qlawWishes1, qlawWishes4, qlawWishes5, qlawWishes0, qlawWishes2, qlawWishes3]
  by_cases hn : narrowB nfl ffl = true
  · have hcp := narrow_copy hn
    by_cases h1 : flowE st pl ho ge nfl ffl = 0
    · by_cases h2 : partE pl ho p h = 0
      · by_cases h3 : 0 ≤ th ∧ th ≤ 500000000
        · obtain ⟨h3, h4⟩ := h3
          have hw : wishE st pl ho ge p h nfl ffl th = 0 := by simp [wishE, h1, h2, h3, h4, first3]
          have hC : refSteps2C [.int .i64 st, .int .i64 pl, .int .i64 ho, .int .i64 ge, .list [.list [.int .i64]] nfl ffl, .int .i64 p, .int .i64 h, .int .i64 th] = true := by simp [refSteps2C, h1, h2, h3, h4]
          by_cases h5 : th = 0
          · subst h5
            simp [hn, hcp, h1, h2, hw, hC]
          · by_cases h6 : thickV st pl ho ge p h ffl (perI st ho ge) = 0
            · simp [hn, hcp, h1, h2, h3, h4, hw, hC, h5, h6]
            · simp [hn, hcp, h1, h2, h3, h4, hw, hC, h5, h6, first3]
              obtain ⟨e1, e2, e3, e4⟩ := flowE_ok h1
              have hF := flowE_fl h1
              have e5 := rackE_ok e1
              have e6 := partE_ok e5 h2
              obtain ⟨S, P, H, G, ⟨rfl, rfl, rfl, rfl⟩, c1, c2, c3, c4, c5, c6, c7, c8⟩ := rack_nat e5
              obtain ⟨Q, K, ⟨rfl, rfl⟩, c9, c10⟩ := part_nat e6
              simp only [Int.toNat_natCast] at hF
              obtain ⟨n, m1, m2, m3, m4, m5⟩ := wish_char (P := P) (G := G) (Q := Q) (K := K) c1 c2 c5 c6 hF (show 1 ≤ th by omega) h4 h6
              rw [m2]
              intro _ hn6
              have w : IntKind.i64.wrap ((n : Int) - 1) = ((n - 1 : Nat) : Int) := by rw [wrap_id (by omega) (by omega)]; omega
              have s1 : stepsE (n : Int) = 0 := by unfold stepsE; rw [if_pos (by omega)]
              have s2 : stepsE ((n - 1 : Nat) : Int) = 0 := by unfold stepsE; rw [if_pos (by omega)]
              have v1 := thickV_FT (P := P) (G := G) (Q := Q) (K := K) c1 c2 c5 c6 hF (n := n) (by omega)
              have v2 := thickV_FT (P := P) (G := G) (Q := Q) (K := K) c1 c2 c5 c6 hF (n := n - 1) (by omega)
              simp only [w, s1, s2, v1, v2, if_true]
              exact ⟨fun _ => ⟨fun _ => ⟨m5, fun _ => m4⟩, trivial⟩, trivial⟩
        · have hw : wishE st pl ho ge p h nfl ffl th = 2 := by simp only [wishE, h1, h2, first3, if_true, if_neg h3]
          simp [hn, hcp, h1, h2, hw]
          omega
      · have hw : wishE st pl ho ge p h nfl ffl th = partE pl ho p h := by simp [wishE, h1, h2, first3]
        simp [hn, hcp, h1, h2, hw]
    · have hw : wishE st pl ho ge p h nfl ffl th = flowE st pl ho ge nfl ffl := by simp [wishE, h1, first3]
      simp [hn, hcp, h1, hw]
  · simp [hn]
end
end Go.Ex

