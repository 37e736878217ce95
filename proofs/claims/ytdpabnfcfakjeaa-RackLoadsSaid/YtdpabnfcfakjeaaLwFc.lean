/-
  Contracts: the period; the thickness of a part.
-/
import Derived.Test.YtdpabnfcfakjeaaLwFab

namespace Go.Ex
open Go Go.Proofs Go.RowKit
noncomputable section

def sm1 : T Smf := (T.set (T.set (T.set (T.set (T.set sm0 88 (some (gFd withinS (.one .bool) withinC withinR))) 91 (some (gFd divisorS (.one (.int .i64)) divisorC divisorR))) 120 (some (gFd dotS (.one (.int .i64)) dotC dotR))) 121 (some (gFd totalS (.one (.int .i64)) totalC totalR))) 115 (some (gFd atS (.tup [.one (.int .i64), .one (.int .i64)]) atC atR)))
theorem sm1_ok : Tab SmOk sm1 := (Tab.set (Tab.set (Tab.set (Tab.set (Tab.set sm0_ok (by kernel_rfl) (smOk_of sm0_ok gs0_ok within_ok rfl)) (by kernel_rfl) (smOk_of sm0_ok gs0_ok divisor_ok rfl)) (by kernel_rfl) (smOk_of sm0_ok gs0_ok dot_ok rfl)) (by kernel_rfl) (smOk_of sm0_ok gs0_ok total_ok rfl)) (by kernel_rfl) (smOk_of sm0_ok gs0_ok at_ok rfl))
def divI (a b : Int) : Int := IntKind.i64.wrap (a.tdiv b)
def perI (st ho ge : Int) : Int := wrapI (divI st (gcdF st (divI ho (gcdF ho ge))) * divI ho (gcdF ho ge))
def periodS : List PT := [.agg [.int .i64, .int .i64, .int .i64, .int .i64]]
def periodC : List FD → Bool
  | [.int _ st, .int _ _, .int _ ho, .int _ ge] => !decide (gcdF ho ge = 0) && !decide (gcdF st (divI ho (gcdF ho ge)) = 0)
  | _ => false
def periodR : List FD → List FD
  | [.int _ st, .int _ _, .int _ ho, .int _ ge] => [.int .i64 (perI st ho ge)]
  | _ => []
def periodI (_st : Int) (_pl : Int) (_ho : Int) (_ge : Int) : Nat → AFam := alts (fun _ => [])
theorem period_ok : FnOk (mkR sm1 gs0) Try.prog η0 100 (FI.of Try.f100 true) periodS (.one (.int .i64)) periodC periodR := by
  refine fnOk_of0 sm1_ok gs0_ok Try.fok100 (fun fds => match fds with | [.int _ st, .int _ pl, .int _ ho, .int _ ge] => periodI st pl ho ge | _ => alts fun _ => []) ?_
  intro fds hf hc
  obtain ⟨st, ds0, rfl, hf1⟩ := hf.int
  obtain ⟨pl, ds1, rfl, hf2⟩ := hf1.int
  obtain ⟨ho, ds2, rfl, hf3⟩ := hf2.int
  obtain ⟨ge, ds3, rfl, hf4⟩ := hf3.int
  obtain rfl := hf4.nil
  have hc : (!decide (gcdF ho ge = 0) && !decide (gcdF st (divI ho (gcdF ho ge)) = 0)) = true := hc
  have hvc : (vcF sm1 gs0 (FI.of Try.f100 true) periodS (.one (.int .i64)) (periodI st pl ho ge) noR [.int .i64 st, .int .i64 pl, .int .i64 ho, .int .i64 ge] (periodR [.int .i64 st, .int .i64 pl, .int .i64 ho, .int .i64 ge])) =
    ((true = true) ∧ (((true = true) → ((((!decide (gcdF ho ge = (0 : Int))) = (true)) → (((true = true) → ((((!decide (gcdF st (IntKind.wrap IntKind.i64 (Int.tdiv ho (gcdF ho ge))) = (0 : Int))) = (true)) → (((IntKind.i64) = (IntKind.i64)) ∧ ((perI st ho ge) = (IntKind.wrap IntKind.i64 (IntKind.wrap IntKind.i64 (Int.tdiv st (gcdF st (IntKind.wrap IntKind.i64 (Int.tdiv ho (gcdF ho ge))))) * IntKind.wrap IntKind.i64 (Int.tdiv ho (gcdF ho ge))))))) ∧ (((!decide (gcdF st (IntKind.wrap IntKind.i64 (Int.tdiv ho (gcdF ho ge))) = (0 : Int))) = (false)) → False))) ∧ ((true = false) → False))) ∧ (((!decide (gcdF ho ge = (0 : Int))) = (false)) → False))) ∧ ((true = false) → False))) := by kernel_rfl
  refine hvc.mpr ?_
  clear hvc
  simp only [Bool.and_eq_true, Bool.not_eq_true', decide_eq_false_iff_not] at hc
  simp [hc]
  exact ⟨fun _ => rfl, hc.2⟩
def sm2 : T Smf := (T.set sm1 100 (some (gFd periodS (.one (.int .i64)) periodC periodR)))
theorem sm2_ok : Tab SmOk sm2 := (Tab.set sm1_ok (by kernel_rfl) (smOk_of sm1_ok gs0_ok period_ok rfl))

/-- A right rack. -/
def rackB (st pl ho ge : Int) : Bool := (decide (1 ≤ st) && decide (st ≤ 24)) && (decide (1 ≤ pl) && decide (pl ≤ 8)) && (decide (1 ≤ ho) && decide (ho ≤ 12)) && (decide (0 ≤ ge) && decide (ge < ho)) && decide (st.tmod pl = 0)
def partB (pl ho p h : Int) : Bool := (decide (0 ≤ p) && decide (p < pl)) && (decide (0 ≤ h) && decide (h < ho))
/-- The rows are there. -/
def rowsB (st ho : Int) (nfl : Nat) (ffl : Nat → Nat → FD) : Bool := Nat.ble st.toNat nfl && natAll (fun i => Nat.ble ho.toNat (ffl i 0).ln) st.toNat

theorem gcdF_nat : ∀ (b a : Nat), gcdF (a : Int) (b : Int) = ((Nat.gcd a b : Nat) : Int) := by
  intro b
  induction b using Nat.strongRecOn with
  | _ b ih =>
    intro a
    rcases Nat.eq_zero_or_pos b with rfl | hb
    · rw [show ((0 : Nat) : Int) = 0 from rfl, gcdF_zero, Nat.gcd_zero_right]
    · rw [gcdF_step _ (by omega), Int.tmod_eq_emod_of_nonneg (by omega), ← Int.natCast_emod, ih (a % b) (Nat.mod_lt _ hb), Nat.gcd_comm b, ← Nat.gcd_rec, Nat.gcd_comm]
theorem divI_nat {a b : Nat} (ha : a ≤ 9223372036854775807) : divI (a : Int) (b : Int) = ((a / b : Nat) : Int) := by
  unfold divI
  rw [Int.tdiv_eq_ediv_of_nonneg (by omega), ← Int.natCast_ediv]
  have : a / b ≤ a := Nat.div_le_self _ _
  generalize a / b = q at this ⊢
  exact wrap_id (by omega) (by omega)
/-- The period. -/
def perN (st ho ge : Nat) : Nat := st / Nat.gcd st (ho / Nat.gcd ho ge) * (ho / Nat.gcd ho ge)
theorem perI_nat {st ho ge : Nat} (h1 : st ≤ 24) (h2 : ho ≤ 12) : perI st ho ge = ((perN st ho ge : Nat) : Int) := by
  unfold perI perN
  have e1 : ho / Nat.gcd ho ge ≤ ho := Nat.div_le_self _ _
  have e2 : st / Nat.gcd st (ho / Nat.gcd ho ge) ≤ st := Nat.div_le_self _ _
  have e3 : st / Nat.gcd st (ho / Nat.gcd ho ge) * (ho / Nat.gcd ho ge) ≤ 24 * 12 := Nat.mul_le_mul (by omega) (by omega)
  rw [gcdF_nat, divI_nat (by omega), gcdF_nat, divI_nat (by omega), ← Int.natCast_mul, wrapI_nat (by omega)]

theorem rack_nat {st pl ho ge : Int} (h : rackB st pl ho ge = true) : ∃ S P H G : Nat, (st = S ∧ pl = P ∧ ho = H ∧ ge = G) ∧ 1 ≤ S ∧ S ≤ 24 ∧ 1 ≤ P ∧ P ≤ 8 ∧ 1 ≤ H ∧ H ≤ 12 ∧ G < H ∧ S % P = 0 := by
  simp only [rackB, Bool.and_eq_true, decide_eq_true_eq] at h
  obtain ⟨⟨⟨⟨⟨a1, a2⟩, a3, a4⟩, a5, a6⟩, a7, a8⟩, a9⟩ := h
  obtain ⟨S, rfl⟩ := Int.eq_ofNat_of_zero_le (show 0 ≤ st by omega)
  obtain ⟨P, rfl⟩ := Int.eq_ofNat_of_zero_le (show 0 ≤ pl by omega)
  obtain ⟨H, rfl⟩ := Int.eq_ofNat_of_zero_le (show 0 ≤ ho by omega)
  obtain ⟨G, rfl⟩ := Int.eq_ofNat_of_zero_le (show 0 ≤ ge by omega)
  refine ⟨S, P, H, G, ⟨rfl, rfl, rfl, rfl⟩, by omega, by omega, by omega, by omega, by omega, by omega, by omega, ?_⟩
  rw [Int.tmod_eq_emod_of_nonneg (by omega), ← Int.natCast_emod] at a9
  omega
theorem part_nat {pl ho p h : Int} (hp : partB pl ho p h = true) : ∃ Q K : Nat, (p = Q ∧ h = K) ∧ (Q : Int) < pl ∧ (K : Int) < ho := by
  simp only [partB, Bool.and_eq_true, decide_eq_true_eq] at hp
  obtain ⟨⟨a1, a2⟩, a3, a4⟩ := hp
  obtain ⟨Q, rfl⟩ := Int.eq_ofNat_of_zero_le a1
  obtain ⟨K, rfl⟩ := Int.eq_ofNat_of_zero_le a3
  exact ⟨Q, K, ⟨rfl, rfl⟩, a2, a4⟩
theorem rows_nat {S H nfl : Nat} {ffl : Nat → Nat → FD} (h : rowsB (S : Int) (H : Int) nfl ffl = true) : S ≤ nfl ∧ ∀ i, i < S → H ≤ (ffl i 0).ln := by
  simp only [rowsB, Bool.and_eq_true, Int.toNat_natCast] at h
  exact ⟨Nat.le_of_ble_eq_true h.1, fun i hi => Nat.le_of_ble_eq_true (natAll_spec h.2 i hi)⟩
theorem turn_pos {H : Nat} (G : Nat) (h : 1 ≤ H) : 0 < H / Nat.gcd H G := Nat.div_pos (Nat.le_of_dvd h (Nat.gcd_dvd_left H G)) (Nat.gcd_pos_of_pos_left G h)
theorem perN_pos {S H : Nat} (G : Nat) (h1 : 1 ≤ S) (h2 : 1 ≤ H) : 0 < perN S H G :=
  Nat.mul_pos (Nat.div_pos (Nat.le_of_dvd h1 (Nat.gcd_dvd_left S _)) (Nat.gcd_pos_of_pos_left _ h1)) (turn_pos G h2)
theorem periodC_nat {S H : Nat} (P G : Nat) (h1 : 1 ≤ S) (h2 : 1 ≤ H) (h3 : H ≤ 12) : periodC [.int .i64 (S : Int), .int .i64 (P : Int), .int .i64 (H : Int), .int .i64 (G : Int)] = true := by
  simp only [periodC, Bool.and_eq_true, Bool.not_eq_true', decide_eq_false_iff_not]
  rw [gcdF_nat, divI_nat (by omega), gcdF_nat]
  have e1 := Nat.gcd_pos_of_pos_left G h2
  have e2 := Nat.gcd_pos_of_pos_left (H / Nat.gcd H G) h1
  exact ⟨by omega, by omega⟩

end
end Go.Ex

