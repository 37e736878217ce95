/-
  Thicknesses as sums, without overflow; the sums of a table's rows.
-/
/-
  The document's thickness: how often a part is at each place, times what it gets there.
-/
/-
  The law RackPlaces, as the executor's contract.
-/
import Derived.Test.YtdpabnfcfakjeaaLwTb
import Derived.Test.YtdpabnfcfakjeaaLwVs

namespace Go.Ex
open Go Go.Proofs Go.RowKit
noncomputable section
set_option maxRecDepth 1000000

/-- What a part gets at a step. -/
def flA (f : Nat → Nat → FD) (S P H G Q K t : Nat) : Int := flowAt S H f (t + Q * (S / P), K + G * t)
def FT (f : Nat → Nat → FD) (S P H G Q K n : Nat) : Int := isum (flA f S P H G Q K) n
/-- The flow is right. -/
def FlowOk (f : Nat → Nat → FD) (S H : Nat) : Prop := ∀ a b : Nat, 0 ≤ flowAt S H f (a, b) ∧ flowAt S H f (a, b) ≤ 100
theorem flowE_fl {st pl ho ge : Int} {n : Nat} {f : Nat → Nat → FD} (h : flowE st pl ho ge n f = 0) : FlowOk f st.toNat ho.toNat := by
  obtain ⟨e1, e2, e3, e4⟩ := flowE_ok h
  obtain ⟨S, P, H, G, ⟨rfl, rfl, rfl, rfl⟩, c1, c2, c3, c4, c5, c6, c7, c8⟩ := rack_nat (rackE_ok e1)
  obtain ⟨w1, w2⟩ := rows_nat e3
  intro a b
  simp only [Int.toNat_natCast, flowAt]
  exact e4 _ (Nat.lt_of_lt_of_le (Nat.mod_lt _ (by omega)) (by omega)) _ (Nat.lt_of_lt_of_le (Nat.mod_lt _ (by omega)) (w2 _ (Nat.mod_lt _ (by omega))))
theorem FT_bd {f : Nat → Nat → FD} {S H : Nat} (hf : FlowOk f S H) (P G Q K n : Nat) : 0 ≤ FT f S P H G Q K n ∧ FT f S P H G Q K n ≤ 100 * n := isum_bd fun _ _ => hf _ _
theorem thA_places {f : Nat → Nat → FD} {S H : Nat} (hf : FlowOk f S H) (P G Q K m : Nat) : ∀ n, n ≤ 100000 → thA S H f (m : Int) (placesL S P G Q K n) = (FT f S P H G Q K n, FT f S P H G Q K (min n m), (n : Int))
  | 0, _ => by simp [placesL, thA, FT, isum]
  | n + 1, hn => by
    have b1 := FT_bd hf P G Q K n
    have b2 := FT_bd hf P G Q K (min n m)
    have b3 := hf (n + Q * (S / P)) (K + G * n)
    have b4 : ((f ((n + Q * (S / P)) % S) 0).fn ((K + G * n) % H) 0).i = flowAt S H f (n + Q * (S / P), K + G * n) := rfl
    have hmin : min n m ≤ n := Nat.min_le_left _ _
    rw [placesL_succ, thA_snoc, thA_places hf P G Q K m n (by omega)]
    simp only [thF, b4]
    rw [wrap_id (by omega) (by omega), wrap_id (n := (n : Int) + 1) (by omega) (by omega)]
    refine Prod.ext rfl (Prod.ext ?_ rfl)
    simp only
    by_cases h : n < m
    · rw [if_pos (by omega), Nat.min_eq_left (by omega), Nat.min_eq_left (by omega), wrap_id (by rw [Nat.min_eq_left (by omega)] at b2; omega) (by rw [Nat.min_eq_left (by omega)] at b2; omega)]
      rfl
    · rw [if_neg (by omega), Nat.min_eq_right (by omega), Nat.min_eq_right (by omega)]
/-- The thickness of a part. -/
theorem thickV_eq {f : Nat → Nat → FD} {S P H G Q K n : Nat} (c1 : 1 ≤ S) (c2 : S ≤ 24) (c5 : 1 ≤ H) (c6 : H ≤ 12) (hf : FlowOk f S H) (hn : n ≤ 1000000) :
    thickV S P H G Q K f n = (n / perN S H G : Nat) * FT f S P H G Q K (perN S H G) + FT f S P H G Q K (n % perN S H G) := by
  have hper : perI (S : Int) H G = (perN S H G : Nat) := perI_nat c2 c6
  have hp := perN_pos G c1 c5
  have hb := perN_le S H G
  have hSH : S * H ≤ 24 * 12 := Nat.mul_le_mul c2 c6
  unfold thickV thR stepsI
  simp only [hper, Int.toNat_natCast]
  generalize hq : perN S H G = p at *
  have em : ((n : Int).tmod (p : Int)) = ((n % p : Nat) : Int) := by rw [Int.tmod_eq_emod_of_nonneg (by omega), Int.natCast_emod]
  rw [em]
  by_cases h : n < p
  · rw [if_pos (by omega), if_pos (by omega), Int.toNat_natCast, thA_places hf P G Q K _ n (by omega), Nat.div_eq_of_lt h, Nat.mod_eq_of_lt h]
    simp
  · have hm := Nat.mod_lt n hp
    have b1 := FT_bd hf P G Q K p
    have b2 := FT_bd hf P G Q K (n % p)
    have ed : ((n : Int).tdiv (p : Int)) = ((n / p : Nat) : Int) := by rw [Int.tdiv_eq_ediv_of_nonneg (by omega), Int.natCast_ediv]
    have hd : n / p ≤ n := Nat.div_le_self _ _
    rw [if_neg (by omega), if_neg (by omega), Int.toNat_natCast, thA_places hf P G Q K _ p (by omega), ed, Nat.min_eq_right (by omega)]
    simp only
    generalize FT f S P H G Q K p = A at *
    generalize FT f S P H G Q K (n % p) = B at *
    generalize n / p = d at *
    have h1 : 0 ≤ (d : Int) * A := Int.mul_nonneg (by omega) b1.1
    have h2 : (d : Int) * A ≤ 1000000 * 100000 := Int.mul_le_mul (by omega) (by omega) b1.1 (by omega)
    rw [wrap_id (n := (d : Int)) (by omega) (by omega), wrap_id (n := (d : Int) * A) (by omega) (by omega), wrap_id (n := (d : Int) * A + B) (by omega) (by omega)]
theorem sumF_isum {f : Nat → Nat → FD} {M : Int} (hM : M ≤ 1000000000) (hM0 : 0 ≤ M) : ∀ {n : Nat}, n ≤ 1000000 → (∀ j, j < n → 0 ≤ (f j 0).i ∧ (f j 0).i ≤ M) → sumF f n = isum (fun j => (f j 0).i) n
  | 0, _, _ => rfl
  | n + 1, hn, h => by
    have b := isum_bd (g := fun j => (f j 0).i) (M := M) (n := n) fun j hj => h j (by omega)
    have b0 := h n (by omega)
    have : M * (n : Int) ≤ 1000000000 * 1000000 := Int.mul_le_mul hM (by omega) (by omega) (by omega)
    simp only [sumF, isum]
    rw [sumF_isum hM hM0 (by omega) fun j hj => h j (by omega), wrap_id (by omega) (by omega)]
/-- The table's rows. -/
theorem tabF_bd {f fb : Nat → Nat → FD} {S H : Nat} (hf : FlowOk f S H) (P G K : Nat) : ∀ n, n ≤ 100000 → ∀ j, 0 ≤ tabF S H f fb (placesL S P G 0 K n) j ∧ tabF S H f fb (placesL S P G 0 K n) j ≤ 100 * n
  | 0, _, j => by simp [placesL, tabF]
  | n + 1, hn, j => by
    have ih := tabF_bd (fb := fb) hf P G K n (by omega) j
    have b := hf (n + 0 * (S / P)) (K + G * n)
    rw [placesL_succ, tabF_snoc]
    split
    · rw [wrap_id (by omega) (by omega)]; omega
    · omega
theorem tabF_sum {f fb : Nat → Nat → FD} {S H N : Nat} (hf : FlowOk f S H) (P G K : Nat) (hb : ∀ a : Nat, (fb (a % S) 0).i.toNat < N) : ∀ n, n ≤ 100000 → isum (fun j => tabF S H f fb (placesL S P G 0 K n) j) N = FT f S P H G 0 K n
  | 0, _ => by
    have : ∀ m, isum (fun j => tabF S H f fb (placesL S P G 0 K 0) j) m = 0 := fun m => by
      induction m with
      | zero => rfl
      | succ m ih => simp only [isum, ih]; simp [placesL, tabF]
    rw [this]; rfl
  | n + 1, hn => by
    have ih := tabF_sum hf P G K hb n (by omega)
    have b := hf (n + 0 * (S / P)) (K + G * n)
    show _ = FT f S P H G 0 K n + flA f S P H G 0 K n
    rw [← ih, placesL_succ]
    have e : ∀ j, tabF S H f fb (placesL S P G 0 K n ++ [(n + 0 * (S / P), K + G * n)]) j = if (fb ((n + 0 * (S / P)) % S) 0).i.toNat = j then tabF S H f fb (placesL S P G 0 K n) j + flA f S P H G 0 K n else tabF S H f fb (placesL S P G 0 K n) j := fun j => by
      have bj := tabF_bd (fb := fb) hf P G K n (by omega) j
      rw [tabF_snoc, wrap_id (by omega) (by omega)]
      rfl
    rw [isum_congr fun j _ => e j, isum_upd, if_pos (hb _)]

end
end Go.Ex


namespace Go.Ex
open Go Go.Proofs Go.RowKit
noncomputable section
set_option maxRecDepth 1000000

theorem isum_addf (f g : Nat → Int) : ∀ n, isum (fun i => f i + g i) n = isum f n + isum g n
  | 0 => rfl
  | n + 1 => by simp only [isum, isum_addf f g n]; omega
theorem isum_zero : ∀ n, isum (fun _ => 0) n = 0
  | 0 => rfl
  | n + 1 => by simp only [isum, isum_zero n]; rfl
theorem isum_one (a : Nat) (c : Int) : ∀ n, isum (fun i => if i = a then c else 0) n = if a < n then c else 0
  | 0 => by simp [isum]
  | n + 1 => by
    simp only [isum, isum_one a c n]
    by_cases h1 : n = a
    · subst h1; simp
    · by_cases h2 : a < n
      · rw [if_pos h2, if_neg h1, if_pos (by omega)]; omega
      · rw [if_neg h2, if_neg h1, if_neg (by omega)]; rfl
theorem smN_isum (f : Nat → Int) : ∀ n, smN f n = isum f n
  | 0 => rfl
  | n + 1 => by simp only [smN, isum, smN_isum f n]
theorem flA_at (f : Nat → Nat → FD) (S P H G Q K t : Nat) : flowAt S H f ((t + Q * (S / P)) % S, (K + G * t) % H) = flA f S P H G Q K t := by
  simp only [flA, flowAt, Nat.mod_mod]
theorem cnt_flow {S P H G Q K : Nat} (f : Nat → Nat → FD) (hS : 1 ≤ S) (hH : 1 ≤ H) (N : Nat) : isum (fun i => isum (fun k => cntV S P H G Q K N i k * flowAt S H f (i, k)) H) S = FT f S P H G Q K N := by
  induction N with
  | zero => simp only [cntV, Int.zero_mul, isum_zero]; rfl
  | succ N ih =>
    have e : ∀ i k, cntV S P H G Q K (N + 1) i k * flowAt S H f (i, k) = cntV S P H G Q K N i k * flowAt S H f (i, k) + if k = (K + G * N) % H then (if i = (N + Q * (S / P)) % S then flA f S P H G Q K N else 0) else 0 := fun i k => by
      simp only [cntV]
      by_cases h1 : i = (N + Q * (S / P)) % S
      · by_cases h2 : k = (K + G * N) % H
        · rw [if_pos ⟨h1, h2⟩, if_pos h2, if_pos h1, Int.add_mul, Int.one_mul]
          congr 1
          rw [h1, h2, flA_at]
        · rw [if_neg (fun x => h2 x.2), if_neg h2]; omega
      · by_cases h2 : k = (K + G * N) % H
        · rw [if_neg (fun x => h1 x.1), if_pos h2, if_neg h1]; omega
        · rw [if_neg (fun x => h2 x.2), if_neg h2]; omega
    simp only [e, isum_addf, isum_one, ih, if_pos (Nat.mod_lt (K + G * N) hH), if_pos (Nat.mod_lt (N + Q * (S / P)) hS)]
    rfl
/-- The thickness by whole periods is the plain sum. -/
theorem FT_per {f : Nat → Nat → FD} {S P H G Q K : Nat} (hS : 1 ≤ S) (hH : 1 ≤ H) (n : Nat) : FT f S P H G Q K n = (n / perN S H G : Nat) * FT f S P H G Q K (perN S H G) + FT f S P H G Q K (n % perN S H G) := by
  have hp := perN_pos G hS hH
  have key : ∀ t, flA f S P H G Q K (t % perN S H G) = flA f S P H G Q K t := fun t => by
    obtain ⟨e1, e2⟩ := place_per (S := S) (P := P) (H := H) (G := G) (Q := Q) (K := K) hS hH t
    rw [← flA_at, e1, e2, flA_at]
  have step : ∀ d r, FT f S P H G Q K (perN S H G * d + r) = (d : Int) * FT f S P H G Q K (perN S H G) + FT f S P H G Q K r := fun d r => by
    have shift : ∀ d t, flA f S P H G Q K (perN S H G * d + t) = flA f S P H G Q K t := fun d t => by
      rw [← key, Nat.mul_add_mod, key]
    have full : ∀ d, FT f S P H G Q K (perN S H G * d) = (d : Int) * FT f S P H G Q K (perN S H G) := fun d => by
      induction d with
      | zero => simp [FT, isum]
      | succ d ih =>
        rw [Nat.mul_succ]
        show isum _ (perN S H G * d + perN S H G) = _
        rw [isum_add, isum_congr fun j _ => shift d j]
        show FT f S P H G Q K (perN S H G * d) + FT f S P H G Q K (perN S H G) = _
        rw [ih, Int.natCast_succ, Int.add_mul, Int.one_mul]
    show isum _ (perN S H G * d + r) = _
    rw [isum_add, isum_congr fun j _ => shift d j]
    show FT f S P H G Q K (perN S H G * d) + FT f S P H G Q K r = _
    rw [full]
  have := step (n / perN S H G) (n % perN S H G)
  rwa [Nat.div_add_mod] at this
theorem thickV_FT {f : Nat → Nat → FD} {S P H G Q K n : Nat} (c1 : 1 ≤ S) (c2 : S ≤ 24) (c5 : 1 ≤ H) (c6 : H ≤ 12) (hf : FlowOk f S H) (hn : n ≤ 1000000) : thickV S P H G Q K f n = FT f S P H G Q K n := by
  rw [thickV_eq c1 c2 c5 c6 hf hn, ← FT_per c1 c5]
end
end Go.Ex


namespace Go.Ex
open Go Go.Proofs Go.RowKit
noncomputable section
set_option maxRecDepth 1000000

def smW : T Smf := (T.set smV 53 (some (gFd refStepsS (.one (.int .i64)) refStepsC refStepsR)))
theorem smW_ok : Tab SmOk smW := (Tab.set smV_ok (by kernel_rfl) (smOk_of smV_ok gs6_ok refSteps_ok rfl))
def gsW : G2 := (G2.setG gs6 39 (gFd VisitsS (.tup [.one (.list [.list [.int .i64]]), .one (.int .i64)]) VisitsC VisitsR))
theorem gsW_ok : G2Ok gsW := (G2Ok.setG gs6_ok (by kernel_rfl) (gsOk_of smV_ok gs6_ok Visits_ok))
theorem intsB_same (n : Nat) (f : Nat → Nat → FD) : intsB n f n f = true := by
  rw [intsB, Nat.beq_refl, natAll_of fun i _ => decide_eq_true rfl]
  rfl
theorem listsB_same (n : Nat) (f : Nat → Nat → FD) : listsB n f n f = true := by
  rw [listsB, Nat.beq_refl, natAll_of fun i _ => intsB_same _ _]
  rfl
def rowS (S P H G Q K N i k : Nat) : Int := isum (fun k => cntV S P H G Q K N i k) k
def allS2 (S P H G Q K N x : Nat) : Int := isum (fun i => rowS S P H G Q K N i H) x
theorem allS2_end {S P H G Q K : Nat} (hS : 1 ≤ S) (hH : 1 ≤ H) (N : Nat) : allS2 S P H G Q K N S = N := by
  have := cntV_sum (S := S) (P := P) (H := H) (G := G) (Q := Q) (K := K) hS hH N
  simp only [smN_isum] at this
  exact this
theorem rowS_bd (S P H G Q K N i k : Nat) : 0 ≤ rowS S P H G Q K N i k ∧ rowS S P H G Q K N i k ≤ (N : Int) * k := isum_bd fun j _ => cntV_bd S P H G Q K i j N
theorem allS2_bd (S P H G Q K N x : Nat) : 0 ≤ allS2 S P H G Q K N x ∧ allS2 S P H G Q K N x ≤ (N : Int) * H * x := isum_bd fun j _ => rowS_bd S P H G Q K N j H
def lawPlacesS : List PT := [.agg [.int .i64, .int .i64, .int .i64, .int .i64], .agg [.int .i64, .int .i64], .one (.int .i64)]
def lawPlacesC : List FD → Bool
  | [.int _ _, .int _ _, .int _ _, .int _ _, .int _ _, .int _ _, .int _ _] => true
  | _ => false
def lawPlacesR : List FD → List FD
  | [.int _ _, .int _ _, .int _ _, .int _ _, .int _ _, .int _ _, .int _ _] => [.bool true]
  | _ => []
def lawPlacesI (st : Int) (pl : Int) (ho : Int) (ge : Int) (p : Int) (h : Int) (n : Int) : Nat → AFam := fun i => match i with | 14 => ⟨Nat, fun _ => [{ι := Nat, G := fun x => x ≤ st.toNat, μ := fun x => st.toNat - x, tl := fun x => [(0, .agg [.int IntKind.i64 (.tm st), .int IntKind.i64 (.tm pl), .int IntKind.i64 (.tm ho), .int IntKind.i64 (.tm ge)]), (1, .agg [.int IntKind.i64 (.tm p), .int IntKind.i64 (.tm h)]), (2, .one (.int IntKind.i64 (.tm n))), (3, .one (.ptr (some (1, 0)))), (4, .one (.ptr (some (2, 0)))), (7, .one (.ptr (some (3, 0)))), (8, .one (.int IntKind.i64 (.tm (placeE st pl ho ge p h n)))), (9, .one (.fz (.root 4 0) (FD.list [Sh.list [Sh.int IntKind.i64]] (if placeE st pl ho ge p h n = (0 : Int) then Int.toNat st else (0 : Nat)) fun (i x : Nat) => FD.list [Sh.int IntKind.i64] (Int.toNat ho) fun (k x : Nat) => FD.int IntKind.i64 (cntV (Int.toNat st) (Int.toNat pl) (Int.toNat ho) (Int.toNat ge) (Int.toNat p) (Int.toNat h) (Int.toNat n) i k)))), (10, .one (.int IntKind.i64 (.tm (placeE st pl ho ge p h n)))), (12, .one (.int IntKind.i64 (.tm (allS2 st.toNat pl.toNat ho.toNat ge.toNat p.toNat h.toNat n.toNat x)))), (13, .one (.int IntKind.i64 (.tm (Int.ofNat x))))], bl := fun x => [(1, .cells 47 4 [.int IntKind.i64 (.tm st), .int IntKind.i64 (.tm pl), .int IntKind.i64 (.tm ho), .int IntKind.i64 (.tm ge)]), (2, .cells 64 2 [.int IntKind.i64 (.tm p), .int IntKind.i64 (.tm h)]), (3, .cells 64 2 [.int IntKind.i64 (.tm (if placeE st pl ho ge p h n = (0 : Int) then statI st pl p n else (0 : Int))), .int IntKind.i64 (.tm (if placeE st pl ho ge p h n = (0 : Int) then sideI ho ge h n else (0 : Int)))])], nx := (1 : Nat) + (1 : Nat) + (1 : Nat) + (1 : Nat) + (1 : Nat)}]⟩ | 17 => ⟨Nat, fun z => [{ι := Nat, G := fun x => z < st.toNat ∧ x ≤ ho.toNat, μ := fun x => ho.toNat - x, tl := fun x => [(0, .agg [.int IntKind.i64 (.tm st), .int IntKind.i64 (.tm pl), .int IntKind.i64 (.tm ho), .int IntKind.i64 (.tm ge)]), (1, .agg [.int IntKind.i64 (.tm p), .int IntKind.i64 (.tm h)]), (2, .one (.int IntKind.i64 (.tm n))), (3, .one (.ptr (some (1, 0)))), (4, .one (.ptr (some (2, 0)))), (7, .one (.ptr (some (3, 0)))), (8, .one (.int IntKind.i64 (.tm (placeE st pl ho ge p h n)))), (9, .one (.fz (.root 4 0) (FD.list [Sh.list [Sh.int IntKind.i64]] (if placeE st pl ho ge p h n = (0 : Int) then Int.toNat st else (0 : Nat)) fun (i x : Nat) => FD.list [Sh.int IntKind.i64] (Int.toNat ho) fun (k x : Nat) => FD.int IntKind.i64 (cntV (Int.toNat st) (Int.toNat pl) (Int.toNat ho) (Int.toNat ge) (Int.toNat p) (Int.toNat h) (Int.toNat n) i k)))), (10, .one (.int IntKind.i64 (.tm (placeE st pl ho ge p h n)))), (12, .one (.int IntKind.i64 (.tm (allS2 st.toNat pl.toNat ho.toNat ge.toNat p.toNat h.toNat n.toNat z + rowS st.toNat pl.toNat ho.toNat ge.toNat p.toNat h.toNat n.toNat z x)))), (13, .one (.int IntKind.i64 (.tm (Int.ofNat z)))), (14, .one (.int IntKind.i64 (.tm (Int.ofNat x))))], bl := fun x => [(1, .cells 47 4 [.int IntKind.i64 (.tm st), .int IntKind.i64 (.tm pl), .int IntKind.i64 (.tm ho), .int IntKind.i64 (.tm ge)]), (2, .cells 64 2 [.int IntKind.i64 (.tm p), .int IntKind.i64 (.tm h)]), (3, .cells 64 2 [.int IntKind.i64 (.tm (if placeE st pl ho ge p h n = (0 : Int) then statI st pl p n else (0 : Int))), .int IntKind.i64 (.tm (if placeE st pl ho ge p h n = (0 : Int) then sideI ho ge h n else (0 : Int)))])], nx := (1 : Nat) + (1 : Nat) + (1 : Nat) + (1 : Nat) + (1 : Nat)}]⟩ | _ => ⟨Nat, fun _ => []⟩
abbrev qlawPlaces3 (st : Int) (pl : Int) (ho : Int) (ge : Int) (p : Int) (h : Int) (n : Int) : Prop := ((listsB (if placeE st pl ho ge p h n = (0 : Int) then Int.toNat st else (0 : Nat)) (fun (i x : Nat) => FD.list [Sh.int IntKind.i64] (Int.toNat ho) fun (k x : Nat) => FD.int IntKind.i64 (cntV (Int.toNat st) (Int.toNat pl) (Int.toNat ho) (Int.toNat ge) (Int.toNat p) (Int.toNat h) (Int.toNat n) i k)) (Int.toNat st) fun (i x : Nat) => FD.list [Sh.int IntKind.i64] (Int.toNat ho) fun (k x : Nat) => FD.int IntKind.i64 (refV (Int.toNat st) (Int.toNat pl) (Int.toNat ho) (Int.toNat ge) (Int.toNat p) (Int.toNat h) (Int.toNat n) (Int.toNat (perI st ho ge)) (Int.toNat (perI st ho ge)) i k)) = (false))
abbrev qlawPlaces4 (st : Int) (pl : Int) (ho : Int) (ge : Int) (p : Int) (h : Int) (n : Int) : Prop := ((listsB (if placeE st pl ho ge p h n = (0 : Int) then Int.toNat st else (0 : Nat)) (fun (i x : Nat) => FD.list [Sh.int IntKind.i64] (Int.toNat ho) fun (k x : Nat) => FD.int IntKind.i64 (cntV (Int.toNat st) (Int.toNat pl) (Int.toNat ho) (Int.toNat ge) (Int.toNat p) (Int.toNat h) (Int.toNat n) i k)) (Int.toNat st) fun (i x : Nat) => FD.list [Sh.int IntKind.i64] (Int.toNat ho) fun (k x : Nat) => FD.int IntKind.i64 (refV (Int.toNat st) (Int.toNat pl) (Int.toNat ho) (Int.toNat ge) (Int.toNat p) (Int.toNat h) (Int.toNat n) (Int.toNat (perI st ho ge)) (Int.toNat (perI st ho ge)) i k)) = (true))
abbrev qlawPlaces7 (st : Int) (pl : Int) (ho : Int) (ge : Int) (p : Int) (h : Int) (n : Int) : Prop := (((Ref.root (4) (0)) = (Ref.root (4) (0))) ∧ (((FD.list [Sh.list [Sh.int IntKind.i64]] (if placeE st pl ho ge p h n = (0 : Int) then Int.toNat st else (0 : Nat)) fun (i x : Nat) => FD.list [Sh.int IntKind.i64] (Int.toNat ho) fun (k x : Nat) => FD.int IntKind.i64 (cntV (Int.toNat st) (Int.toNat pl) (Int.toNat ho) (Int.toNat ge) (Int.toNat p) (Int.toNat h) (Int.toNat n) i k)) = (FD.list [Sh.list [Sh.int IntKind.i64]] (if placeE st pl ho ge p h n = (0 : Int) then Int.toNat st else (0 : Nat)) fun (i x : Nat) => FD.list [Sh.int IntKind.i64] (Int.toNat ho) fun (k x : Nat) => FD.int IntKind.i64 (cntV (Int.toNat st) (Int.toNat pl) (Int.toNat ho) (Int.toNat ge) (Int.toNat p) (Int.toNat h) (Int.toNat n) i k))) ∧ (true = true)))
abbrev qlawPlaces9 (st : Int) (pl : Int) (ho : Int) (ge : Int) (p : Int) (h : Int) (n : Int) : Prop := ((((decide ((if placeE st pl ho ge p h n = (0 : Int) then statI st pl p n else (0 : Int)) = (0 : Int))) = (true)) → ((((decide ((if placeE st pl ho ge p h n = (0 : Int) then sideI ho ge h n else (0 : Int)) = (0 : Int))) = (true)) → (true = decide (Int.ofNat (if placeE st pl ho ge p h n = (0 : Int) then Int.toNat st else (0 : Nat)) = (0 : Int)))) ∧ (((decide ((if placeE st pl ho ge p h n = (0 : Int) then sideI ho ge h n else (0 : Int)) = (0 : Int))) = (false)) → (true = false)))) ∧ (((decide ((if placeE st pl ho ge p h n = (0 : Int) then statI st pl p n else (0 : Int)) = (0 : Int))) = (false)) → (true = false)))
abbrev qlawPlaces10 (st : Int) (pl : Int) (ho : Int) (ge : Int) : Prop := ((((IntKind.i64) = (IntKind.i64)) ∧ ((st) = (st))) ∧ ((((IntKind.i64) = (IntKind.i64)) ∧ ((pl) = (pl))) ∧ ((((IntKind.i64) = (IntKind.i64)) ∧ ((ho) = (ho))) ∧ ((((IntKind.i64) = (IntKind.i64)) ∧ ((ge) = (ge))) ∧ True))))
abbrev qlawPlaces11 (st : Int) (pl : Int) (ho : Int) (ge : Int) (p : Int) (h : Int) (n : Int) : Prop := (((decide (placeE st pl ho ge p h n = (0 : Int))) = (false)) → ((((decide (placeE st pl ho ge p h n = (0 : Int))) = (true)) → False) ∧ (((decide (placeE st pl ho ge p h n = (0 : Int))) = (false)) → (true = false))))
abbrev qlawPlaces6 (st : Int) (pl : Int) (ho : Int) (ge : Int) (p : Int) (h : Int) (n : Int) : Prop := (((decide (placeE st pl ho ge p h n = (0 : Int))) = (false)) → ((((decide (placeE st pl ho ge p h n = (0 : Int))) = (true)) → False) ∧ (qlawPlaces11 st pl ho ge p h n)))
abbrev qlawPlaces14 (st : Int) (pl : Int) (ho : Int) (ge : Int) (p : Int) (h : Int) (n : Int) : Prop := (((decide (placeE st pl ho ge p h n = (0 : Int))) = (false)) → ((((decide (placeE st pl ho ge p h n = (0 : Int))) = (true)) → False) ∧ (qlawPlaces6 st pl ho ge p h n)))
abbrev qlawPlaces2 (st : Int) (pl : Int) (ho : Int) (ge : Int) (p : Int) (h : Int) (n : Int) : Prop := ((((decide (placeE st pl ho ge p h n = (0 : Int))) = (true)) → ((((decide (placeE st pl ho ge p h n = (0 : Int))) = (true)) → False) ∧ (qlawPlaces6 st pl ho ge p h n))) ∧ (qlawPlaces14 st pl ho ge p h n))
abbrev qlawPlaces12 (st : Int) (pl : Int) (ho : Int) (ge : Int) (p : Int) (h : Int) (n : Int) : Prop := (((decide (placeE st pl ho ge p h n = (0 : Int))) = (false)) → ((((decide (placeE st pl ho ge p h n = (0 : Int))) = (true)) → (qlawPlaces2 st pl ho ge p h n)) ∧ (((decide (placeE st pl ho ge p h n = (0 : Int))) = (false)) → (qlawPlaces2 st pl ho ge p h n))))
abbrev qlawPlaces1 (st : Int) (pl : Int) (ho : Int) (ge : Int) (p : Int) (h : Int) (n : Int) (y1 : Nat) : Prop := ((((decide (placeE st pl ho ge p h n = (0 : Int))) = (true)) → ((((decide (placeE st pl ho ge p h n = (0 : Int))) = (true)) → ((((decide (placeE st pl ho ge p h n = (0 : Int))) = (true)) → ((((decide (placeE st pl ho ge p h n = (0 : Int))) = (true)) → ((((decide (placeE st pl ho ge p h n = (0 : Int))) = (true)) → ((((refPlaceC ([FD.int IntKind.i64 st, FD.int IntKind.i64 pl, FD.int IntKind.i64 ho, FD.int IntKind.i64 ge] ++ ([FD.int IntKind.i64 p, FD.int IntKind.i64 h] ++ [FD.int IntKind.i64 n]))) = (true)) → ((((decide (placeE st pl ho ge p h n = (0 : Int))) = (true)) → ((((decide ((if placeE st pl ho ge p h n = (0 : Int) then statI st pl p n else (0 : Int)) = statI st pl p n)) = (true)) → ((((decide ((if placeE st pl ho ge p h n = (0 : Int) then sideI ho ge h n else (0 : Int)) = sideI ho ge h n)) = (true)) → ((((decide (placeE st pl ho ge p h n = (0 : Int))) = (true)) → ((((decide (placeE st pl ho ge p h n = (0 : Int))) = (true)) → ((((decide (placeE st pl ho ge p h n = (0 : Int))) = (true)) → ((((decide (placeE st pl ho ge p h n = (0 : Int))) = (true)) → ((((decide (placeE st pl ho ge p h n = (0 : Int))) = (true)) → ((((decide (placeE st pl ho ge p h n = (0 : Int))) = (true)) → ((((refVisitsC ([FD.int IntKind.i64 st, FD.int IntKind.i64 pl, FD.int IntKind.i64 ho, FD.int IntKind.i64 ge] ++ ([FD.int IntKind.i64 p, FD.int IntKind.i64 h] ++ [FD.int IntKind.i64 n]))) = (true)) → ((((decide (placeE st pl ho ge p h n = (0 : Int))) = (true)) → (((true = true) → ((((decide (placeE st pl ho ge p h n = (0 : Int))) = (true)) → (((qlawPlaces4 st pl ho ge p h n) → (((qlawPlaces4 st pl ho ge p h n) → (((qlawPlaces4 st pl ho ge p h n) → (((qlawPlaces4 st pl ho ge p h n) → (true = decide (allS2 (Int.toNat st) (Int.toNat pl) (Int.toNat ho) (Int.toNat ge) (Int.toNat p) (Int.toNat h) (Int.toNat n) y1 = n))) ∧ ((qlawPlaces3 st pl ho ge p h n) → (true = false)))) ∧ ((qlawPlaces3 st pl ho ge p h n) → (((qlawPlaces4 st pl ho ge p h n) → False) ∧ ((qlawPlaces3 st pl ho ge p h n) → (true = false)))))) ∧ ((qlawPlaces3 st pl ho ge p h n) → (((qlawPlaces4 st pl ho ge p h n) → False) ∧ ((qlawPlaces3 st pl ho ge p h n) → (((qlawPlaces4 st pl ho ge p h n) → False) ∧ ((qlawPlaces3 st pl ho ge p h n) → (true = false)))))))) ∧ ((qlawPlaces3 st pl ho ge p h n) → (((qlawPlaces4 st pl ho ge p h n) → (((qlawPlaces4 st pl ho ge p h n) → False) ∧ ((qlawPlaces3 st pl ho ge p h n) → (((qlawPlaces4 st pl ho ge p h n) → False) ∧ ((qlawPlaces3 st pl ho ge p h n) → (true = false)))))) ∧ ((qlawPlaces3 st pl ho ge p h n) → (((qlawPlaces4 st pl ho ge p h n) → False) ∧ ((qlawPlaces3 st pl ho ge p h n) → (((qlawPlaces4 st pl ho ge p h n) → False) ∧ ((qlawPlaces3 st pl ho ge p h n) → (true = false)))))))))) ∧ (((decide (placeE st pl ho ge p h n = (0 : Int))) = (false)) → (true = false)))) ∧ ((true = false) → False))) ∧ (qlawPlaces11 st pl ho ge p h n))) ∧ (((refVisitsC ([FD.int IntKind.i64 st, FD.int IntKind.i64 pl, FD.int IntKind.i64 ho, FD.int IntKind.i64 ge] ++ ([FD.int IntKind.i64 p, FD.int IntKind.i64 h] ++ [FD.int IntKind.i64 n]))) = (false)) → False))) ∧ (qlawPlaces6 st pl ho ge p h n))) ∧ (qlawPlaces14 st pl ho ge p h n))) ∧ (((decide (placeE st pl ho ge p h n = (0 : Int))) = (false)) → (qlawPlaces2 st pl ho ge p h n)))) ∧ (qlawPlaces12 st pl ho ge p h n))) ∧ (((decide (placeE st pl ho ge p h n = (0 : Int))) = (false)) → ((((decide (placeE st pl ho ge p h n = (0 : Int))) = (true)) → ((((decide (placeE st pl ho ge p h n = (0 : Int))) = (true)) → ((((decide (placeE st pl ho ge p h n = (0 : Int))) = (true)) → ((((decide (placeE st pl ho ge p h n = (0 : Int))) = (true)) → ((((refVisitsC ([FD.int IntKind.i64 st, FD.int IntKind.i64 pl, FD.int IntKind.i64 ho, FD.int IntKind.i64 ge] ++ ([FD.int IntKind.i64 p, FD.int IntKind.i64 h] ++ [FD.int IntKind.i64 n]))) = (true)) → ((((decide (placeE st pl ho ge p h n = (0 : Int))) = (true)) → False) ∧ (qlawPlaces11 st pl ho ge p h n))) ∧ (((refVisitsC ([FD.int IntKind.i64 st, FD.int IntKind.i64 pl, FD.int IntKind.i64 ho, FD.int IntKind.i64 ge] ++ ([FD.int IntKind.i64 p, FD.int IntKind.i64 h] ++ [FD.int IntKind.i64 n]))) = (false)) → False))) ∧ (qlawPlaces6 st pl ho ge p h n))) ∧ (qlawPlaces14 st pl ho ge p h n))) ∧ (((decide (placeE st pl ho ge p h n = (0 : Int))) = (false)) → (qlawPlaces2 st pl ho ge p h n)))) ∧ (qlawPlaces12 st pl ho ge p h n))))) ∧ (((decide (placeE st pl ho ge p h n = (0 : Int))) = (false)) → (true = false)))) ∧ (((decide ((if placeE st pl ho ge p h n = (0 : Int) then sideI ho ge h n else (0 : Int)) = sideI ho ge h n)) = (false)) → ((((decide (placeE st pl ho ge p h n = (0 : Int))) = (true)) → (true = false)) ∧ (((decide (placeE st pl ho ge p h n = (0 : Int))) = (false)) → (true = false)))))) ∧ (((decide ((if placeE st pl ho ge p h n = (0 : Int) then statI st pl p n else (0 : Int)) = statI st pl p n)) = (false)) → ((((decide (placeE st pl ho ge p h n = (0 : Int))) = (true)) → (true = false)) ∧ (((decide (placeE st pl ho ge p h n = (0 : Int))) = (false)) → (true = false)))))) ∧ (qlawPlaces11 st pl ho ge p h n))) ∧ (((refPlaceC ([FD.int IntKind.i64 st, FD.int IntKind.i64 pl, FD.int IntKind.i64 ho, FD.int IntKind.i64 ge] ++ ([FD.int IntKind.i64 p, FD.int IntKind.i64 h] ++ [FD.int IntKind.i64 n]))) = (false)) → False))) ∧ (qlawPlaces6 st pl ho ge p h n))) ∧ (qlawPlaces14 st pl ho ge p h n))) ∧ (((decide (placeE st pl ho ge p h n = (0 : Int))) = (false)) → (qlawPlaces2 st pl ho ge p h n)))) ∧ (qlawPlaces12 st pl ho ge p h n))) ∧ (((decide (placeE st pl ho ge p h n = (0 : Int))) = (false)) → ((((decide (placeE st pl ho ge p h n = (0 : Int))) = (true)) → ((((decide (placeE st pl ho ge p h n = (0 : Int))) = (true)) → ((((decide (placeE st pl ho ge p h n = (0 : Int))) = (true)) → ((((decide (placeE st pl ho ge p h n = (0 : Int))) = (true)) → ((((refPlaceC ([FD.int IntKind.i64 st, FD.int IntKind.i64 pl, FD.int IntKind.i64 ho, FD.int IntKind.i64 ge] ++ ([FD.int IntKind.i64 p, FD.int IntKind.i64 h] ++ [FD.int IntKind.i64 n]))) = (true)) → ((((decide (placeE st pl ho ge p h n = (0 : Int))) = (true)) → False) ∧ (qlawPlaces11 st pl ho ge p h n))) ∧ (((refPlaceC ([FD.int IntKind.i64 st, FD.int IntKind.i64 pl, FD.int IntKind.i64 ho, FD.int IntKind.i64 ge] ++ ([FD.int IntKind.i64 p, FD.int IntKind.i64 h] ++ [FD.int IntKind.i64 n]))) = (false)) → False))) ∧ (qlawPlaces6 st pl ho ge p h n))) ∧ (qlawPlaces14 st pl ho ge p h n))) ∧ (((decide (placeE st pl ho ge p h n = (0 : Int))) = (false)) → (qlawPlaces2 st pl ho ge p h n)))) ∧ (qlawPlaces12 st pl ho ge p h n))))
abbrev qlawPlaces15 (st : Int) (pl : Int) (ho : Int) (ge : Int) (p : Int) (h : Int) (n : Int) : Prop := (((2) = (2)) ∧ ((((IntKind.i64) = (IntKind.i64)) ∧ ((if placeE st pl ho ge p h n = (0 : Int) then statI st pl p n else (0 : Int)) = (if placeE st pl ho ge p h n = (0 : Int) then statI st pl p n else (0 : Int)))) ∧ ((((IntKind.i64) = (IntKind.i64)) ∧ ((if placeE st pl ho ge p h n = (0 : Int) then sideI ho ge h n else (0 : Int)) = (if placeE st pl ho ge p h n = (0 : Int) then sideI ho ge h n else (0 : Int)))) ∧ True)))
abbrev qlawPlaces8 (st : Int) (pl : Int) (ho : Int) (ge : Int) (p : Int) (h : Int) (n : Int) : Prop := (((((47 : TypeId)) = ((47 : TypeId))) ∧ (((4) = (4)) ∧ (qlawPlaces10 st pl ho ge))) ∧ (((((64 : TypeId)) = ((64 : TypeId))) ∧ (((2) = (2)) ∧ ((((IntKind.i64) = (IntKind.i64)) ∧ ((p) = (p))) ∧ ((((IntKind.i64) = (IntKind.i64)) ∧ ((h) = (h))) ∧ True)))) ∧ (((((64 : TypeId)) = ((64 : TypeId))) ∧ (qlawPlaces15 st pl ho ge p h n)) ∧ True)))
abbrev qlawPlaces5 (st : Int) (pl : Int) (ho : Int) (ge : Int) (p : Int) (h : Int) (n : Int) (y1 : Nat) (y2 : Nat) (y3 : Nat) : Prop := (∃ y4 : Nat, ((y4 ≤ Int.toNat st ∧ Int.toNat st - y4 < Int.toNat st - y1) ∧ (((true = true) ∧ ((qlawPlaces10 st pl ho ge) ∧ (((((IntKind.i64) = (IntKind.i64)) ∧ ((p) = (p))) ∧ ((((IntKind.i64) = (IntKind.i64)) ∧ ((h) = (h))) ∧ True)) ∧ ((((IntKind.i64) = (IntKind.i64)) ∧ ((n) = (n))) ∧ ((((1, 1) ∈ ([(3, 3), (2, 2), (1, 1)] : List (Nat × Nat))) ∧ ((0) = (0))) ∧ ((((2, 2) ∈ ([(3, 3), (2, 2), (1, 1)] : List (Nat × Nat))) ∧ ((0) = (0))) ∧ ((((3, 3) ∈ ([(3, 3), (2, 2), (1, 1)] : List (Nat × Nat))) ∧ ((0) = (0))) ∧ ((((IntKind.i64) = (IntKind.i64)) ∧ ((placeE st pl ho ge p h n) = (placeE st pl ho ge p h n))) ∧ ((qlawPlaces7 st pl ho ge p h n) ∧ ((((IntKind.i64) = (IntKind.i64)) ∧ ((placeE st pl ho ge p h n) = (placeE st pl ho ge p h n))) ∧ ((((IntKind.i64) = (IntKind.i64)) ∧ ((allS2 (Int.toNat st) (Int.toNat pl) (Int.toNat ho) (Int.toNat ge) (Int.toNat p) (Int.toNat h) (Int.toNat n) y4) = (allS2 (Int.toNat st) (Int.toNat pl) (Int.toNat ho) (Int.toNat ge) (Int.toNat p) (Int.toNat h) (Int.toNat n) y2 + rowS (Int.toNat st) (Int.toNat pl) (Int.toNat ho) (Int.toNat ge) (Int.toNat p) (Int.toNat h) (Int.toNat n) y2 y3))) ∧ ((((IntKind.i64) = (IntKind.i64)) ∧ ((Int.ofNat y4) = (IntKind.wrap IntKind.i64 (Int.ofNat y2 + (1 : Int))))) ∧ True)))))))))))) ∧ (qlawPlaces8 st pl ho ge p h n))))
abbrev qlawPlaces0 (st : Int) (pl : Int) (ho : Int) (ge : Int) (p : Int) (h : Int) (n : Int) : Prop := (∃ y0 : Nat, ((∃ y1 : Nat, ((y1 ≤ Int.toNat st ∧ True) ∧ (((true = true) ∧ ((qlawPlaces10 st pl ho ge) ∧ (((((IntKind.i64) = (IntKind.i64)) ∧ ((p) = (p))) ∧ ((((IntKind.i64) = (IntKind.i64)) ∧ ((h) = (h))) ∧ True)) ∧ ((((IntKind.i64) = (IntKind.i64)) ∧ ((n) = (n))) ∧ ((((1, 1) ∈ ([(3, 3), (2, 2), (1, 1)] : List (Nat × Nat))) ∧ ((0) = (0))) ∧ ((((2, 2) ∈ ([(3, 3), (2, 2), (1, 1)] : List (Nat × Nat))) ∧ ((0) = (0))) ∧ ((((3, 3) ∈ ([(3, 3), (2, 2), (1, 1)] : List (Nat × Nat))) ∧ ((0) = (0))) ∧ ((((IntKind.i64) = (IntKind.i64)) ∧ ((placeE st pl ho ge p h n) = (placeE st pl ho ge p h n))) ∧ ((qlawPlaces7 st pl ho ge p h n) ∧ ((((IntKind.i64) = (IntKind.i64)) ∧ ((placeE st pl ho ge p h n) = (placeE st pl ho ge p h n))) ∧ ((((IntKind.i64) = (IntKind.i64)) ∧ ((allS2 (Int.toNat st) (Int.toNat pl) (Int.toNat ho) (Int.toNat ge) (Int.toNat p) (Int.toNat h) (Int.toNat n) y1) = ((0 : Int)))) ∧ ((((IntKind.i64) = (IntKind.i64)) ∧ ((Int.ofNat y1) = ((0 : Int)))) ∧ True)))))))))))) ∧ (((((47 : TypeId)) = ((47 : Nat))) ∧ (((4) = (4)) ∧ (qlawPlaces10 st pl ho ge))) ∧ (((((64 : TypeId)) = ((64 : Nat))) ∧ (((2) = (2)) ∧ ((((IntKind.i64) = (IntKind.i64)) ∧ ((p) = (p))) ∧ ((((IntKind.i64) = (IntKind.i64)) ∧ ((h) = (h))) ∧ True)))) ∧ (((((64 : TypeId)) = ((64 : Nat))) ∧ (qlawPlaces15 st pl ho ge p h n)) ∧ True)))))) ∧ (∀ y1 : Nat, (y1 ≤ Int.toNat st → ((((decide (Int.ofNat y1 < Int.ofNat (if placeE st pl ho ge p h n = (0 : Int) then Int.toNat st else (0 : Nat)))) = (true)) → ((((decide (Int.ofNat y1 < (24 : Int))) = (true)) → (∃ y2 : Nat, ((∃ y3 : Nat, (((y2 < Int.toNat st ∧ y3 ≤ Int.toNat ho) ∧ True) ∧ (((true = true) ∧ ((qlawPlaces10 st pl ho ge) ∧ (((((IntKind.i64) = (IntKind.i64)) ∧ ((p) = (p))) ∧ ((((IntKind.i64) = (IntKind.i64)) ∧ ((h) = (h))) ∧ True)) ∧ ((((IntKind.i64) = (IntKind.i64)) ∧ ((n) = (n))) ∧ ((((1, 1) ∈ ([(3, 3), (2, 2), (1, 1)] : List (Nat × Nat))) ∧ ((0) = (0))) ∧ ((((2, 2) ∈ ([(3, 3), (2, 2), (1, 1)] : List (Nat × Nat))) ∧ ((0) = (0))) ∧ ((((3, 3) ∈ ([(3, 3), (2, 2), (1, 1)] : List (Nat × Nat))) ∧ ((0) = (0))) ∧ ((((IntKind.i64) = (IntKind.i64)) ∧ ((placeE st pl ho ge p h n) = (placeE st pl ho ge p h n))) ∧ ((qlawPlaces7 st pl ho ge p h n) ∧ ((((IntKind.i64) = (IntKind.i64)) ∧ ((placeE st pl ho ge p h n) = (placeE st pl ho ge p h n))) ∧ ((((IntKind.i64) = (IntKind.i64)) ∧ ((allS2 (Int.toNat st) (Int.toNat pl) (Int.toNat ho) (Int.toNat ge) (Int.toNat p) (Int.toNat h) (Int.toNat n) y2 + rowS (Int.toNat st) (Int.toNat pl) (Int.toNat ho) (Int.toNat ge) (Int.toNat p) (Int.toNat h) (Int.toNat n) y2 y3) = (allS2 (Int.toNat st) (Int.toNat pl) (Int.toNat ho) (Int.toNat ge) (Int.toNat p) (Int.toNat h) (Int.toNat n) y1))) ∧ ((((IntKind.i64) = (IntKind.i64)) ∧ ((Int.ofNat y2) = (Int.ofNat y1))) ∧ ((((IntKind.i64) = (IntKind.i64)) ∧ ((Int.ofNat y3) = ((0 : Int)))) ∧ True))))))))))))) ∧ (qlawPlaces8 st pl ho ge p h n)))) ∧ (∀ y3 : Nat, ((y2 < Int.toNat st ∧ y3 ≤ Int.toNat ho) → ((((decide ((0 : Int) ≤ Int.ofNat y2) && decide (Int.ofNat y2 < (↑(if placeE st pl ho ge p h n = (0 : Int) then Int.toNat st else (0 : Nat)) : Int))) = (true)) → ((((decide (Int.ofNat y3 < Int.ofNat (Int.toNat ho))) = (true)) → ((((decide (Int.ofNat y3 < (12 : Int))) = (true)) → ((((decide ((0 : Int) ≤ Int.ofNat y2) && decide (Int.ofNat y2 < (↑(if placeE st pl ho ge p h n = (0 : Int) then Int.toNat st else (0 : Nat)) : Int))) = (true)) → ((((decide ((0 : Int) ≤ Int.ofNat y3) && decide (Int.ofNat y3 < (↑(Int.toNat ho) : Int))) = (true)) → (∃ y4 : Nat, (((y2 < Int.toNat st ∧ y4 ≤ Int.toNat ho) ∧ Int.toNat ho - y4 < Int.toNat ho - y3) ∧ (((true = true) ∧ ((qlawPlaces10 st pl ho ge) ∧ (((((IntKind.i64) = (IntKind.i64)) ∧ ((p) = (p))) ∧ ((((IntKind.i64) = (IntKind.i64)) ∧ ((h) = (h))) ∧ True)) ∧ ((((IntKind.i64) = (IntKind.i64)) ∧ ((n) = (n))) ∧ ((((1, 1) ∈ ([(3, 3), (2, 2), (1, 1)] : List (Nat × Nat))) ∧ ((0) = (0))) ∧ ((((2, 2) ∈ ([(3, 3), (2, 2), (1, 1)] : List (Nat × Nat))) ∧ ((0) = (0))) ∧ ((((3, 3) ∈ ([(3, 3), (2, 2), (1, 1)] : List (Nat × Nat))) ∧ ((0) = (0))) ∧ ((((IntKind.i64) = (IntKind.i64)) ∧ ((placeE st pl ho ge p h n) = (placeE st pl ho ge p h n))) ∧ ((qlawPlaces7 st pl ho ge p h n) ∧ ((((IntKind.i64) = (IntKind.i64)) ∧ ((placeE st pl ho ge p h n) = (placeE st pl ho ge p h n))) ∧ ((((IntKind.i64) = (IntKind.i64)) ∧ ((allS2 (Int.toNat st) (Int.toNat pl) (Int.toNat ho) (Int.toNat ge) (Int.toNat p) (Int.toNat h) (Int.toNat n) y2 + rowS (Int.toNat st) (Int.toNat pl) (Int.toNat ho) (Int.toNat ge) (Int.toNat p) (Int.toNat h) (Int.toNat n) y2 y4) = (IntKind.wrap IntKind.i64 (allS2 (Int.toNat st) (Int.toNat pl) (Int.toNat ho) (Int.toNat ge) (Int.toNat p) (Int.toNat h) (Int.toNat n) y2 + rowS (Int.toNat st) (Int.toNat pl) (Int.toNat ho) (Int.toNat ge) (Int.toNat p) (Int.toNat h) (Int.toNat n) y2 y3 + cntV (Int.toNat st) (Int.toNat pl) (Int.toNat ho) (Int.toNat ge) (Int.toNat p) (Int.toNat h) (Int.toNat n) (Int.toNat (Int.ofNat y2)) (Int.toNat (Int.ofNat y3)))))) ∧ ((((IntKind.i64) = (IntKind.i64)) ∧ ((Int.ofNat y2) = (Int.ofNat y2))) ∧ ((((IntKind.i64) = (IntKind.i64)) ∧ ((Int.ofNat y4) = (IntKind.wrap IntKind.i64 (Int.ofNat y3 + (1 : Int))))) ∧ True))))))))))))) ∧ (qlawPlaces8 st pl ho ge p h n))))) ∧ (((decide ((0 : Int) ≤ Int.ofNat y3) && decide (Int.ofNat y3 < (↑(Int.toNat ho) : Int))) = (false)) → False))) ∧ (((decide ((0 : Int) ≤ Int.ofNat y2) && decide (Int.ofNat y2 < (↑(if placeE st pl ho ge p h n = (0 : Int) then Int.toNat st else (0 : Nat)) : Int))) = (false)) → False))) ∧ (((decide (Int.ofNat y3 < (12 : Int))) = (false)) → (qlawPlaces5 st pl ho ge p h n y1 y2 y3)))) ∧ (((decide (Int.ofNat y3 < Int.ofNat (Int.toNat ho))) = (false)) → (qlawPlaces5 st pl ho ge p h n y1 y2 y3)))) ∧ (((decide ((0 : Int) ≤ Int.ofNat y2) && decide (Int.ofNat y2 < (↑(if placeE st pl ho ge p h n = (0 : Int) then Int.toNat st else (0 : Nat)) : Int))) = (false)) → False))))))) ∧ (((decide (Int.ofNat y1 < (24 : Int))) = (false)) → (qlawPlaces1 st pl ho ge p h n y1)))) ∧ (((decide (Int.ofNat y1 < Int.ofNat (if placeE st pl ho ge p h n = (0 : Int) then Int.toNat st else (0 : Nat)))) = (false)) → (qlawPlaces1 st pl ho ge p h n y1)))))))
abbrev qlawPlaces13 (st : Int) (pl : Int) (ho : Int) (ge : Int) (p : Int) (h : Int) (n : Int) : Prop := (((true = true) → ((((decide (stepsE n = (0 : Int))) = (false)) → ((((decide (placeE st pl ho ge p h n = stepsE n)) = (true)) → ((((decide (placeE st pl ho ge p h n = stepsE n)) = (true)) → (qlawPlaces9 st pl ho ge p h n)) ∧ (((decide (placeE st pl ho ge p h n = stepsE n)) = (false)) → (true = false)))) ∧ (((decide (placeE st pl ho ge p h n = stepsE n)) = (false)) → (true = false)))) ∧ (((decide (stepsE n = (0 : Int))) = (true)) → (qlawPlaces0 st pl ho ge p h n)))) ∧ ((true = false) → False))
theorem lawPlaces_ok : FnOk (mkR smW gsW) Try.prog η0 9 (FI.of Try.f9 true) lawPlacesS (.one .bool) lawPlacesC lawPlacesR := by
  refine fnOk_of0 smW_ok gsW_ok Try.fok9 (fun fds => match fds with | [.int _ st, .int _ pl, .int _ ho, .int _ ge, .int _ p, .int _ h, .int _ n] => lawPlacesI st pl ho ge p h n | _ => alts fun _ => []) ?_
  intro fds hf hc
  obtain ⟨st, ds0, rfl, hf1⟩ := hf.int
  obtain ⟨pl, ds1, rfl, hf2⟩ := hf1.int
  obtain ⟨ho, ds2, rfl, hf3⟩ := hf2.int
  obtain ⟨ge, ds3, rfl, hf4⟩ := hf3.int
  obtain ⟨p, ds4, rfl, hf5⟩ := hf4.int
  obtain ⟨h, ds5, rfl, hf6⟩ := hf5.int
  obtain ⟨n, ds6, rfl, hf7⟩ := hf6.int
  obtain rfl := hf7.nil
  have hc : (true) = true := hc
  have hvc : (vcF smW gsW (FI.of Try.f9 true) lawPlacesS (.one .bool) (lawPlacesI st pl ho ge p h n) noR [.int .i64 st, .int .i64 pl, .int .i64 ho, .int .i64 ge, .int .i64 p, .int .i64 h, .int .i64 n] (lawPlacesR [.int .i64 st, .int .i64 pl, .int .i64 ho, .int .i64 ge, .int .i64 p, .int .i64 h, .int .i64 n])) =
    ((true = true) ∧ (((true = true) → (((true = false) → (true = false)) ∧ ((true = true) → (((true = true) → (((true = true) → (((true = true) → ((((decide (rackE st pl ho ge = (0 : Int))) = (true)) → (((true = true) → ((((decide (partE pl ho p h = (0 : Int))) = (true)) → (qlawPlaces13 st pl ho ge p h n)) ∧ (((decide (partE pl ho p h = (0 : Int))) = (false)) → ((((decide (partE pl ho p h = (0 : Int))) = (false)) → ((((decide (placeE st pl ho ge p h n = partE pl ho p h)) = (true)) → ((((decide (placeE st pl ho ge p h n = partE pl ho p h)) = (true)) → (qlawPlaces9 st pl ho ge p h n)) ∧ (((decide (placeE st pl ho ge p h n = partE pl ho p h)) = (false)) → (true = false)))) ∧ (((decide (placeE st pl ho ge p h n = partE pl ho p h)) = (false)) → (true = false)))) ∧ (((decide (partE pl ho p h = (0 : Int))) = (true)) → (qlawPlaces0 st pl ho ge p h n)))))) ∧ ((true = false) → False))) ∧ (((decide (rackE st pl ho ge = (0 : Int))) = (false)) → ((((decide (rackE st pl ho ge = (0 : Int))) = (true)) → (qlawPlaces13 st pl ho ge p h n)) ∧ (((decide (rackE st pl ho ge = (0 : Int))) = (false)) → ((((decide (rackE st pl ho ge = (0 : Int))) = (false)) → ((((decide (placeE st pl ho ge p h n = rackE st pl ho ge)) = (true)) → ((((decide (placeE st pl ho ge p h n = rackE st pl ho ge)) = (true)) → (qlawPlaces9 st pl ho ge p h n)) ∧ (((decide (placeE st pl ho ge p h n = rackE st pl ho ge)) = (false)) → (true = false)))) ∧ (((decide (placeE st pl ho ge p h n = rackE st pl ho ge)) = (false)) → (true = false)))) ∧ (((decide (rackE st pl ho ge = (0 : Int))) = (true)) → (qlawPlaces0 st pl ho ge p h n)))))))) ∧ ((true = false) → False))) ∧ ((true = false) → False))) ∧ ((true = false) → False))))) ∧ ((true = false) → False))) := by kernel_rfl
  refine hvc.mpr ?_
  clear hvc
  dsimp only [qlawPlaces3, qlawPlaces4, qlawPlaces7, qlawPlaces9, qlawPlaces10, qlawPlaces11, qlawPlaces6, qlawPlaces14, qlawPlaces2, qlawPlaces12, qlawPlaces1, qlawPlaces15, qlawPlaces8, qlawPlaces5, qlawPlaces0, qlawPlaces13]
  by_cases h1 : placeE st pl ho ge p h n = 0
  · obtain ⟨e1, e2, e3⟩ := placeE_ok h1
    have e5 := rackE_ok e1
    have e6 := partE_ok e5 e2
    have e7 := stepsE_ok e3
    obtain ⟨S, P, H, G, ⟨rfl, rfl, rfl, rfl⟩, c1, c2, c3, c4, c5, c6, c7, c8⟩ := rack_nat e5
    obtain ⟨Q, K, ⟨rfl, rfl⟩, c9, c10⟩ := part_nat e6
    obtain ⟨N, rfl⟩ := Int.eq_ofNat_of_zero_le e7.1
    have hper : perI (S : Int) H G = (perN S H G : Nat) := perI_nat (by omega) (by omega)
    have hV : ∀ i k, refV S P H G Q K N (perN S H G) (perN S H G) i k = cntV S P H G Q K N i k := refV_eq c1 c5 N
    have cR : refPlaceC [FD.int IntKind.i64 (S : Int), FD.int IntKind.i64 (P : Int), FD.int IntKind.i64 (H : Int), FD.int IntKind.i64 (G : Int), FD.int IntKind.i64 (Q : Int), FD.int IntKind.i64 (K : Int), FD.int IntKind.i64 (N : Int)] = true := by
      simp only [refPlaceC, e5, e6, Bool.and_eq_true, decide_eq_true_eq]
      exact ⟨⟨trivial, trivial⟩, by omega, by omega⟩
    have cV : refVisitsC [FD.int IntKind.i64 (S : Int), FD.int IntKind.i64 (P : Int), FD.int IntKind.i64 (H : Int), FD.int IntKind.i64 (G : Int), FD.int IntKind.i64 (Q : Int), FD.int IntKind.i64 (K : Int), FD.int IntKind.i64 (N : Int)] = true := by
      simp only [refVisitsC, e5, e6, Bool.and_eq_true, decide_eq_true_eq]
      exact ⟨⟨trivial, trivial⟩, by omega, by omega⟩
    simp [h1, e1, e2, e3, hper, hV, listsB_same, cR, cV]
    have hend := allS2_end (S := S) (P := P) (H := H) (G := G) (Q := Q) (K := K) c1 c5 N
    have w1 : ∀ y : Nat, y < 100 → ((y + 1 : Nat) : Int) = IntKind.i64.wrap ((y : Int) + 1) := fun y hy => by rw [wrap_id (by omega) (by omega)]; rfl
    have hbd : ∀ y z : Nat, y ≤ S → z ≤ H → 0 ≤ allS2 S P H G Q K N y + rowS S P H G Q K N y z ∧ allS2 S P H G Q K N y + rowS S P H G Q K N y z ≤ 1000000 * 12 * 24 + 1000000 * 12 := fun y z hy hz => by
      obtain ⟨b1, b2⟩ := allS2_bd S P H G Q K N y
      obtain ⟨b3, b4⟩ := rowS_bd S P H G Q K N y z
      have b5 : (N : Int) * z ≤ 1000000 * 12 := Int.mul_le_mul (by omega) (by omega) (by omega) (by omega)
      have b6 : (N : Int) * H ≤ 1000000 * 12 := Int.mul_le_mul (by omega) (by omega) (by omega) (by omega)
      have b7 : (N : Int) * H * y ≤ 1000000 * 12 * 24 := Int.mul_le_mul b6 (by omega) (by omega) (by omega)
      omega
    have hstep : ∀ y y2 y3 : Nat, y2 = y → y < S → y3 = H → ∃ y4, (y4 ≤ S ∧ S - y4 < S - y) ∧ allS2 S P H G Q K N y4 = allS2 S P H G Q K N y2 + rowS S P H G Q K N y2 y3 ∧ (y4 : Int) = IntKind.i64.wrap ((y2 : Int) + 1) := fun y y2 y3 e hy e3 => by
      subst e; subst e3
      exact ⟨y2 + 1, ⟨by omega, by omega⟩, rfl, w1 y2 (by omega)⟩
    refine ⟨rfl, fun y1 hy => ⟨fun hlt => ⟨fun _ => ⟨y1, ⟨0, ⟨hlt, by omega⟩, by simp [rowS, isum], rfl, rfl⟩, fun y3 _ h3 => ⟨fun _ => ⟨fun h3' => ⟨fun _ => ⟨fun _ => ⟨fun _ => ⟨y3 + 1, ⟨⟨hlt, by omega⟩, by omega⟩, ?_, w1 y3 (by omega)⟩, h3'⟩, hlt⟩, by omega⟩, fun h3' => hstep y1 y1 y3 rfl hlt (by omega)⟩, hlt⟩⟩, by omega⟩, fun hge => by rw [show y1 = S by omega, hend]⟩⟩
    have b := hbd y1 y3 (by omega) (by omega)
    have b' := hbd y1 (y3 + 1) (by omega) (by omega)
    have e : rowS S P H G Q K N y1 (y3 + 1) = rowS S P H G Q K N y1 y3 + cntV S P H G Q K N y1 y3 := rfl
    rw [e] at b' ⊢
    rw [wrap_id (by omega) (by omega)]
    omega
  · by_cases h2 : rackE st pl ho ge = 0
    · by_cases h3 : partE pl ho p h = 0
      · have e : placeE st pl ho ge p h n = stepsE n := by simp [placeE, first3, h2, h3]
        rw [e] at h1
        simp [e, h1, h2, h3]
      · have e : placeE st pl ho ge p h n = partE pl ho p h := by simp [placeE, first3, h2, h3]
        simp [e, h2, h3]
    · have e : placeE st pl ho ge p h n = rackE st pl ho ge := by simp [placeE, first3, h2]
      simp [e, h2]
end
end Go.Ex

