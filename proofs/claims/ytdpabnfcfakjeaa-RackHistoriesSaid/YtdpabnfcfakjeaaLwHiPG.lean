/-
  The histories' plain law: the parts that are coated now are those of the events that coat and behind which no event is their part's.
-/
/-
  The law RackHistories, as the executor's contract.
-/
import Derived.Test.YtdpabnfcfakjeaaLwHiEF

namespace Go.Ex
open Go Go.Proofs Go.RowKit
noncomputable section

theorem stF_some {f : Nat → Nat → FD} : ∀ {n : Nat} {p : List UInt8}, (stF f n p).isSome = true ↔ ∃ j, j < n ∧ (f j 1).s = p
  | 0, p => by simp [stF]
  | n + 1, p => by
    rw [stF]
    by_cases h : bytesEq (f n 1).s p = true
    · rw [if_pos h]
      exact ⟨fun _ => ⟨n, by omega, bytesEq_true.1 h⟩, fun _ => rfl⟩
    · rw [if_neg h, stF_some]
      refine ⟨fun ⟨j, h1, h2⟩ => ⟨j, by omega, h2⟩, fun ⟨j, h1, h2⟩ => ⟨j, ?_, h2⟩⟩
      by_cases e : j = n
      · subst e; exact absurd (bytesEq_true.2 h2) h
      · omega
theorem ltr_iff {n : Nat} {f : Nat → Nat → FD} {i : Nat} : ltr n f i = true ↔ ∃ j, i < j ∧ j < n ∧ (f j 1).s = (f i 1).s := by
  rw [ltr, stF_some]
  refine ⟨fun ⟨j, h1, h2⟩ => ⟨i + 1 + j, by omega, by omega, h2⟩, fun ⟨j, h1, h2, h3⟩ => ⟨j - (i + 1), by omega, ?_⟩⟩
  rw [show i + 1 + (j - (i + 1)) = j by omega]
  exact h3
/-- The state of a part is that behind its last event. -/
theorem stF_last {n : Nat} {f : Nat → Nat → FD} {i : Nat} (hi : i < n) (hl : ltr n f i = false) : stF f n (f i 1).s = some (stNext f i (evS f i)) := by
  induction n with
  | zero => omega
  | succ n ih =>
    rw [stF]
    by_cases e : i = n
    · subst e
      rw [if_pos (bytesEq_true.2 rfl)]
      rfl
    · have hno : ¬ bytesEq (f n 1).s (f i 1).s = true := fun h => by
        have : ltr (n + 1) f i = true := ltr_iff.2 ⟨n, by omega, by omega, bytesEq_true.1 h⟩
        rw [hl] at this; cases this
      rw [if_neg hno]
      refine ih (by omega) ?_
      cases h : ltr n f i with
      | false => rfl
      | true =>
        obtain ⟨j, h1, h2, h3⟩ := ltr_iff.1 h
        have : ltr (n + 1) f i = true := ltr_iff.2 ⟨j, h1, by omega, h3⟩
        rw [hl] at this; cases this
theorem ltr_succ {n : Nat} {f : Nat → Nat → FD} {i : Nat} (hi : i < n) : ltr (n + 1) f i = (ltr n f i || bytesEq (f n 1).s (f i 1).s) := by
  rw [Bool.eq_iff_iff, Bool.or_eq_true, ltr_iff, ltr_iff, bytesEq_true]
  constructor
  · rintro ⟨j, h1, h2, h3⟩
    by_cases e : j = n
    · subst e; exact .inr h3
    · exact .inl ⟨j, h1, by omega, h3⟩
  · rintro (⟨j, h1, h2, h3⟩ | h)
    · exact ⟨j, h1, by omega, h3⟩
    · exact ⟨n, hi, by omega, h⟩
theorem ltr_end {n : Nat} {f : Nat → Nat → FD} : ltr (n + 1) f n = false := by
  cases h : ltr (n + 1) f n with
  | false => rfl
  | true =>
    obtain ⟨j, h1, h2, _⟩ := ltr_iff.1 h
    omega
/-- The events that coat what is coated still. -/
def cur (n : Nat) (f : Nat → Nat → FD) (i : Nat) : Bool := !decide ((f i 0).i = 2) && !ltr n f i
def curL (n : Nat) (f : Nat → Nat → FD) : List Nat := (List.range n).filter (cur n f)
theorem nameB_ne {l : List UInt8} (h : nameB l = true) : bytesEq l [] = false := by
  rw [bytesEq_false]
  intro e
  subst e
  revert h
  decide
theorem evE_coat0 {f : Nat → Nat → FD} {i : Nat} (h : evE f i = 0) (h2 : ¬ (f i 0).i = 2) : nameB (f i 2).s = true ∧ bytesEq (evS f i).1 [] = true := by
  obtain ⟨k0, k1⟩ := evE_kind h
  cases hb : nameB (f i 1).s with
  | false => rw [evE_3 k0 k1 hb] at h; cases h
  | true =>
    rw [evE_coat k0 k1 h2 hb] at h
    split at h
    · rename_i h3
      split at h
      · rename_i h4; exact ⟨h3, h4⟩
      · cases h
    · cases h
theorem cur_succ {n : Nat} {f : Nat → Nat → FD} {i : Nat} (hi : i < n) : cur (n + 1) f i = (cur n f i && !bytesEq (f n 1).s (f i 1).s) := by
  rw [cur, cur, ltr_succ hi, Bool.not_or, Bool.and_assoc]
theorem bytesEq_comm (a b : List UInt8) : bytesEq a b = bytesEq b a := by
  rw [Bool.eq_iff_iff, bytesEq_true, bytesEq_true]
  exact eq_comm
theorem curL_mem {n : Nat} {f : Nat → Nat → FD} {i : Nat} : i ∈ curL n f ↔ i < n ∧ ¬ (f i 0).i = 2 ∧ ltr n f i = false := by
  rw [curL, List.mem_filter, List.mem_range, cur]
  simp
/-- What is known of the state of a coated part. -/
theorem cur_st {n : Nat} {f : Nat → Nat → FD} {i : Nat} (hi : i ∈ curL n f) : stF f n (f i 1).s = some ((f i 2).s, decide ((f i 0).i = 1), (evS f i).2.2) := by
  obtain ⟨h1, h2, h3⟩ := curL_mem.1 hi
  rw [stF_last h1 h3, stNext, if_neg h2]
theorem ord_cur {f : Nat → Nat → FD} : ∀ {n : Nat}, firE (evE f) n = 0 → ordF f n = (curL n f).map fun i => (f i 1).s
  | 0, _ => rfl
  | n + 1, h => by
    have hn := firE_pre h (Nat.le_succ n)
    have he := firE_low h n (Nat.lt_succ_self n)
    have ih := ord_cur hn
    have hcur : curL (n + 1) f = ((curL n f).filter fun i => !bytesEq (f n 1).s (f i 1).s) ++ [n].filter (cur (n + 1) f) := by
      rw [curL, List.range_succ, List.filter_append, curL, List.filter_filter]
      congr 1
      refine List.filter_congr fun i hi => ?_
      rw [cur_succ (List.mem_range.1 hi), Bool.and_comm]
    rw [ordF]
    by_cases hk : (f n 0).i = 2
    · rw [if_pos hk, ih, hcur, List.filter_map]
      have : [n].filter (cur (n + 1) f) = [] := by simp [cur, hk]
      rw [this, List.append_nil]
      congr 1
      refine List.filter_congr fun i hi => ?_
      show (!bytesEq (f i 1).s (f n 1).s) = _
      rw [bytesEq_comm]
    · rw [if_neg hk, ih, hcur]
      have e1 : [n].filter (cur (n + 1) f) = [n] := by simp [cur, hk, ltr_end]
      have e2 : ((curL n f).filter fun i => !bytesEq (f n 1).s (f i 1).s) = curL n f := by
        refine List.filter_eq_self.2 fun i hi => ?_
        have hst := cur_st hi
        obtain ⟨h1, h2, h3⟩ := curL_mem.1 hi
        cases hb : bytesEq (f n 1).s (f i 1).s with
        | false => rfl
        | true =>
          exfalso
          have hb := bytesEq_true.1 hb
          have h4 := (evE_coat0 he hk).2
          have h5 := (evE_coat0 (firE_low hn i h1) h2).1
          rw [evS, hb, hst] at h4
          have h6 := nameB_ne h5
          simp only [Option.getD_some] at h4
          rw [h4] at h6
          cases h6
      rw [e1, e2, List.map_append]
      rfl
theorem strL_strR (l : List (List UInt8)) : strL l.length (strR l) = l := by
  unfold strL strR
  refine List.ext_getElem (by simp) fun i h1 h2 => ?_
  simp only [List.length_map, List.length_range] at h1
  simp [FD.s, h1]
theorem coL_strR (l : List (List UInt8)) (is : List UInt8 → Bool) : coL l.length (strR l) is = l.filter is := by rw [coL, strL_strR]
theorem mgt_cur {n : Nat} {f : Nat → Nat → FD} {i : Nat} (hi : i ∈ curL n f) : (mgt (stM f n (f i 1).s) [FD.str [], FD.bool false, FD.int .i64 0] 0).s = (f i 2).s ∧ (mgt (stM f n (f i 1).s) [FD.str [], FD.bool false, FD.int .i64 0] 1).b = decide ((f i 0).i = 1) := by
  rw [mgt_st, mgt_st, cur_st hi]
  exact ⟨rfl, rfl⟩
theorem ba_eq {n : Nat} {f : Nat → Nat → FD} (h : firE (evE f) n = 0) (q : List UInt8) : coL (ordF f n).length (strR (ordF f n)) (isB (stM f n) q) = rbL n f q false n := by
  rw [coL_strR, ord_cur h, List.filter_map, rbL]
  have : (curL n f).filter (isB (stM f n) q ∘ fun i => (f i 1).s) = (List.range n).filter (rbC n f q false) := by
    have e : (curL n f).filter (isB (stM f n) q ∘ fun i => (f i 1).s) = (curL n f).filter fun i => bytesEq (f i 2).s q := by
      refine List.filter_congr fun i hi => ?_
      show bytesEq _ q = _
      rw [(mgt_cur hi).1]
    rw [e, curL, List.filter_filter]
    refine List.filter_congr fun i hi => ?_
    rw [cur, rbC]
    cases bytesEq (f i 2).s q <;> cases decide ((f i 0).i = 2) <;> cases ltr n f i <;> rfl
  rw [this]
theorem wi_eq {n : Nat} {f : Nat → Nat → FD} (h : firE (evE f) n = 0) (p b : List UInt8) : coL (ordF f n).length (strR (ordF f n)) (isW (stM f n) p b) = (rbL n f b true n).filter fun s => !bytesEq s p := by
  rw [coL_strR, ord_cur h, List.filter_map, rbL, List.filter_map, List.filter_filter]
  have : (curL n f).filter (isW (stM f n) p b ∘ fun i => (f i 1).s) = (List.range n).filter fun i => ((fun s => !bytesEq s p) ∘ fun i => (f i 1).s) i && rbC n f b true i := by
    have e : (curL n f).filter (isW (stM f n) p b ∘ fun i => (f i 1).s) = (curL n f).filter fun i => !bytesEq (f i 1).s p && (decide ((f i 0).i = 1) && bytesEq (f i 2).s b) := by
      refine List.filter_congr fun i hi => ?_
      show (!bytesEq (f i 1).s p && (_ && bytesEq _ b)) = _
      rw [(mgt_cur hi).1, (mgt_cur hi).2]
    rw [e, curL, List.filter_filter]
    refine List.filter_congr fun i hi => ?_
    rw [cur, rbC]
    show _ = ((!bytesEq (f i 1).s p) && _)
    cases bytesEq (f i 2).s b <;> cases decide ((f i 0).i = 2) <;> cases ltr n f i <;> cases bytesEq (f i 1).s p <;> cases decide ((f i 0).i = 1) <;> rfl
  rw [this]
theorem rwL_all (n : Nat) (f : Nat → Nat → FD) (p : List UInt8) : rwL n f p (rwA n f p).length = (rwA n f p).filter fun s => !bytesEq s p := by rw [rwL, List.take_length]
theorem anyN_iff {p : Nat → Bool} : ∀ {n x : Nat}, anyN p n x = true ↔ ∃ i, i < n ∧ p (x + i) = true
  | 0, x => by simp [anyN]
  | n + 1, x => by
    rw [anyN, Bool.or_eq_true, anyN_iff]
    constructor
    · rintro (h | ⟨i, h1, h2⟩)
      · exact ⟨0, by omega, h⟩
      · exact ⟨i + 1, by omega, by rw [show x + (i + 1) = x + 1 + i by omega]; exact h2⟩
    · rintro ⟨i, h1, h2⟩
      cases i with
      | zero => exact .inl h2
      | succ i => exact .inr ⟨i, by omega, by rw [show x + 1 + i = x + (i + 1) by omega]; exact h2⟩
theorem nmd_iff {f : Nat → Nat → FD} {q : List UInt8} : ∀ {n : Nat}, nmd f q n = true ↔ ∃ i, i < n ∧ evIs f q i = true
  | 0 => by simp [nmd]
  | n + 1 => by
    rw [nmd, Bool.or_eq_true, nmd_iff]
    constructor
    · rintro (⟨i, h1, h2⟩ | h)
      · exact ⟨i, by omega, h2⟩
      · exact ⟨n, by omega, h⟩
    · rintro ⟨i, h1, h2⟩
      by_cases e : i = n
      · subst e; exact .inr h2
      · exact .inl ⟨i, by omega, h2⟩
theorem any_nmd (f : Nat → Nat → FD) (q : List UInt8) (n : Nat) : anyN (evIs f q) n 0 = nmd f q n := by
  rw [Bool.eq_iff_iff, anyN_iff, nmd_iff]
  simp only [Nat.zero_add]
theorem folE_fir {n : Nat} {f : Nat → Nat → FD} (h : folE n f = 0) : n ≤ 100 ∧ firE (evE f) n = 0 := by
  rw [folE] at h
  split at h
  · rename_i h'; exact ⟨h', h⟩
  · cases h
/-- Of a right history all answers are the document's. -/
theorem his_ok {n : Nat} {f : Nat → Nat → FD} (h : folE n f = 0) (p q : List UInt8) :
    soS n f p = (stF f n p).getD ([], false, 0) ∧ (soE n f p = if (stF f n p).isSome = true then 0 else 6) ∧ (baE n f q = if nmd f q n = true then 0 else 6) ∧ (nmd f q n = true → baL n f q = rbL n f q false n) ∧ (nmd f q n = false → baL n f q = []) ∧ wiE n f p = rwE n f p ∧
      (rwE n f p = 0 → wiL n f p = rwL n f p (rwA n f p).length) ∧ (rwE n f p ≠ 0 → wiL n f p = []) ∧ ∀ m, m ≤ n → folE m f = 0 := by
  obtain ⟨h100, hf⟩ := folE_fir h
  have eb : baE n f q = if nmd f q n = true then 0 else 6 := by rw [baE, if_pos h, any_nmd]
  have ew : wiE n f p = rwE n f p := by rw [wiE, if_pos h]; rfl
  refine ⟨by rw [soS, if_pos h], by rw [soE, if_pos h], eb, fun hq => ?_, fun hq => ?_, ew, fun h0 => ?_, fun h0 => ?_, fun m hm => ?_⟩
  · rw [baL, if_pos (by rw [eb, if_pos hq]), ba_eq hf]
  · rw [baL, if_neg (by rw [eb, if_neg (by rw [hq]; decide)]; decide)]
  · rw [wiL, if_pos (ew.trans h0), wi_eq hf, rwL_all]
    rfl
  · rw [wiL, if_neg (by rw [ew]; exact h0)]
  · rw [folE, if_pos (by omega)]
    exact firE_pre hf hm
/-- Of a wrong one all say the error. -/
theorem his_no {n : Nat} {f : Nat → Nat → FD} (h : folE n f ≠ 0) (p q : List UInt8) : soS n f p = ([], false, 0) ∧ soE n f p = folE n f ∧ baE n f q = folE n f ∧ baL n f q = [] ∧ wiE n f p = folE n f ∧ wiL n f p = [] := by
  have eb : baE n f q = folE n f := by rw [baE, if_neg h]
  have ew : wiE n f p = folE n f := by rw [wiE, if_neg h]
  exact ⟨by rw [soS, if_neg h], by rw [soE, if_neg h], eb, by rw [baL, if_neg (by rw [eb]; exact h)], ew, by rw [wiL, if_neg (by rw [ew]; exact h)]⟩
end
end Go.Ex


namespace Go.Ex
open Go Go.Proofs Go.RowKit
noncomputable section
set_option maxRecDepth 1000000
def smHd : T Smf := (T.set (T.set (T.set (T.set smHc 73 (some (gFd CheckHistoryS (.tup [.one (.int .i64), .one (.int .i64)]) CheckHistoryC CheckHistoryR))) 74 (some (gFd StateOfS (.tup [.agg [.str, .bool, .int .i64], .one (.int .i64)]) StateOfC StateOfR))) 77 (some (gFd refCheckHistoryS (.tup [.one (.int .i64), .one (.int .i64)]) refCheckHistoryC refCheckHistoryR))) 72 (some (gFd eventsS (.one .bool) eventsC eventsR)))
theorem smHd_ok : Tab SmOk smHd := (Tab.set (Tab.set (Tab.set (Tab.set smHc_ok (by kernel_rfl) (smOk_of smLa_ok gsF_ok CheckHistory_ok rfl)) (by kernel_rfl) (smOk_of smLa_ok gsF_ok StateOf_ok rfl)) (by kernel_rfl) (smOk_of smHb_ok gsF_ok refCheckHistory_ok rfl)) (by kernel_rfl) (smOk_of smHb_ok gsF_ok events_ok rfl))
def gsI : G2 := (G2.setG (G2.setG (G2.setG gsH 75 (gFd BatchOfS (.tup [.one (.list [.str]), .one (.int .i64)]) BatchOfC BatchOfR)) 76 (gFd WitnessesOfS (.tup [.one (.list [.str]), .one (.int .i64)]) WitnessesOfC WitnessesOfR)) 80 (gFd refWitnessesOfS (.tup [.one (.list [.str]), .one (.int .i64)]) refWitnessesOfC refWitnessesOfR))
theorem gsI_ok : G2Ok gsI := (G2Ok.setG (G2Ok.setG (G2Ok.setG gsH_ok (by kernel_rfl) (gsOk_of smLa_ok gsG2_ok BatchOf_ok)) (by kernel_rfl) (gsOk_of smLa_ok gsG2_ok WitnessesOf_ok)) (by kernel_rfl) (gsOk_of smHc_ok gsH_ok refWitnessesOf_ok))
def lawHistoriesS : List PT := [.one (.list [.int .i64, .str, .str]), .one (.str), .one (.str)]
def lawHistoriesC : List FD → Bool
  | [.list _ _ _, .str _, .str _] => true
  | _ => false
def lawHistoriesR : List FD → List FD
  | [.list _ _ _, .str _, .str _] => [.bool true]
  | _ => []
def lawHistoriesI (_nh : Nat) (_fh : Nat → Nat → FD) (_p : List UInt8) (_q : List UInt8) : Nat → AFam := alts (fun _ => [])
abbrev qlawHistories0 (nh : Nat) (fh : Nat → Nat → FD) (p : List UInt8) : Prop := ((((decide (wiE ((0 : Nat) + nh) fh p = rwE nh fh p)) = (true)) → (((true = true) → ((((Nat.beq (List.length (wiL ((0 : Nat) + nh) fh p)) (List.length (if rwE nh fh p = (0 : Int) then rwL nh fh p (List.length (rwA nh fh p)) else [])) && natAll (fun (i : Nat) => bytesEq (List.getD (wiL ((0 : Nat) + nh) fh p) i []) (List.getD (if rwE nh fh p = (0 : Int) then rwL nh fh p (List.length (rwA nh fh p)) else []) i [])) (List.length (wiL ((0 : Nat) + nh) fh p))) = (false)) → (true = false)) ∧ (((Nat.beq (List.length (wiL ((0 : Nat) + nh) fh p)) (List.length (if rwE nh fh p = (0 : Int) then rwL nh fh p (List.length (rwA nh fh p)) else [])) && natAll (fun (i : Nat) => bytesEq (List.getD (wiL ((0 : Nat) + nh) fh p) i []) (List.getD (if rwE nh fh p = (0 : Int) then rwL nh fh p (List.length (rwA nh fh p)) else []) i [])) (List.length (wiL ((0 : Nat) + nh) fh p))) = (true)) → (((true = true) → ((((decide ((0 : Int) ≤ (0 : Int)) && (decide ((0 : Int) ≤ IntKind.wrap IntKind.i64 (Int.tdiv (Int.ofNat ((0 : Nat) + nh)) (2 : Int))) && decide (IntKind.wrap IntKind.i64 (Int.tdiv (Int.ofNat ((0 : Nat) + nh)) (2 : Int)) ≤ (↑((0 : Nat) + nh) : Int)))) = (true)) → ((((Prod.snd (Prod.fst (Sv.one (Prod.fst (Sc.fz (Ref.root ((1 : Nat) + (1 : Nat) + (1 : Nat) + (1 : Nat) + (1 : Nat) + (1 : Nat) + (1 : Nat) + (1 : Nat) + (1 : Nat)) (0 : Nat)) (FD.list [Sh.int IntKind.i64, Sh.str, Sh.str] (Int.toNat (IntKind.wrap IntKind.i64 (Int.tdiv (Int.ofNat ((0 : Nat) + nh)) (2 : Int)))) fh), Nat.ble (Int.toNat (IntKind.wrap IntKind.i64 (Int.tdiv (Int.ofNat ((0 : Nat) + nh)) (2 : Int)))) ((0 : Nat) + nh))), Prod.snd (Sc.fz (Ref.root ((1 : Nat) + (1 : Nat) + (1 : Nat) + (1 : Nat) + (1 : Nat) + (1 : Nat) + (1 : Nat) + (1 : Nat) + (1 : Nat)) (0 : Nat)) (FD.list [Sh.int IntKind.i64, Sh.str, Sh.str] (Int.toNat (IntKind.wrap IntKind.i64 (Int.tdiv (Int.ofNat ((0 : Nat) + nh)) (2 : Int)))) fh), Nat.ble (Int.toNat (IntKind.wrap IntKind.i64 (Int.tdiv (Int.ofNat ((0 : Nat) + nh)) (2 : Int)))) ((0 : Nat) + nh))) :: Prod.fst ([], true), Prod.snd (Sv.one (Prod.fst (Sc.fz (Ref.root ((1 : Nat) + (1 : Nat) + (1 : Nat) + (1 : Nat) + (1 : Nat) + (1 : Nat) + (1 : Nat) + (1 : Nat) + (1 : Nat)) (0 : Nat)) (FD.list [Sh.int IntKind.i64, Sh.str, Sh.str] (Int.toNat (IntKind.wrap IntKind.i64 (Int.tdiv (Int.ofNat ((0 : Nat) + nh)) (2 : Int)))) fh), Nat.ble (Int.toNat (IntKind.wrap IntKind.i64 (Int.tdiv (Int.ofNat ((0 : Nat) + nh)) (2 : Int)))) ((0 : Nat) + nh))), Prod.snd (Sc.fz (Ref.root ((1 : Nat) + (1 : Nat) + (1 : Nat) + (1 : Nat) + (1 : Nat) + (1 : Nat) + (1 : Nat) + (1 : Nat) + (1 : Nat)) (0 : Nat)) (FD.list [Sh.int IntKind.i64, Sh.str, Sh.str] (Int.toNat (IntKind.wrap IntKind.i64 (Int.tdiv (Int.ofNat ((0 : Nat) + nh)) (2 : Int)))) fh), Nat.ble (Int.toNat (IntKind.wrap IntKind.i64 (Int.tdiv (Int.ofNat ((0 : Nat) + nh)) (2 : Int)))) ((0 : Nat) + nh))) && Prod.snd (([] : List Sv), true))) = (true)) → ((((CheckHistoryC [FD.list [Sh.int IntKind.i64, Sh.str, Sh.str] (Int.toNat (IntKind.wrap IntKind.i64 (Int.tdiv (Int.ofNat ((0 : Nat) + nh)) (2 : Int)))) fh]) = (true)) → (true = decide (folE (Int.toNat (IntKind.wrap IntKind.i64 (Int.tdiv (Int.ofNat ((0 : Nat) + nh)) (2 : Int)))) fh = (0 : Int)))) ∧ (((CheckHistoryC [FD.list [Sh.int IntKind.i64, Sh.str, Sh.str] (Int.toNat (IntKind.wrap IntKind.i64 (Int.tdiv (Int.ofNat ((0 : Nat) + nh)) (2 : Int)))) fh]) = (false)) → False))) ∧ (((Prod.snd (Prod.fst (Sv.one (Prod.fst (Sc.fz (Ref.root ((1 : Nat) + (1 : Nat) + (1 : Nat) + (1 : Nat) + (1 : Nat) + (1 : Nat) + (1 : Nat) + (1 : Nat) + (1 : Nat)) (0 : Nat)) (FD.list [Sh.int IntKind.i64, Sh.str, Sh.str] (Int.toNat (IntKind.wrap IntKind.i64 (Int.tdiv (Int.ofNat ((0 : Nat) + nh)) (2 : Int)))) fh), Nat.ble (Int.toNat (IntKind.wrap IntKind.i64 (Int.tdiv (Int.ofNat ((0 : Nat) + nh)) (2 : Int)))) ((0 : Nat) + nh))), Prod.snd (Sc.fz (Ref.root ((1 : Nat) + (1 : Nat) + (1 : Nat) + (1 : Nat) + (1 : Nat) + (1 : Nat) + (1 : Nat) + (1 : Nat) + (1 : Nat)) (0 : Nat)) (FD.list [Sh.int IntKind.i64, Sh.str, Sh.str] (Int.toNat (IntKind.wrap IntKind.i64 (Int.tdiv (Int.ofNat ((0 : Nat) + nh)) (2 : Int)))) fh), Nat.ble (Int.toNat (IntKind.wrap IntKind.i64 (Int.tdiv (Int.ofNat ((0 : Nat) + nh)) (2 : Int)))) ((0 : Nat) + nh))) :: Prod.fst ([], true), Prod.snd (Sv.one (Prod.fst (Sc.fz (Ref.root ((1 : Nat) + (1 : Nat) + (1 : Nat) + (1 : Nat) + (1 : Nat) + (1 : Nat) + (1 : Nat) + (1 : Nat) + (1 : Nat)) (0 : Nat)) (FD.list [Sh.int IntKind.i64, Sh.str, Sh.str] (Int.toNat (IntKind.wrap IntKind.i64 (Int.tdiv (Int.ofNat ((0 : Nat) + nh)) (2 : Int)))) fh), Nat.ble (Int.toNat (IntKind.wrap IntKind.i64 (Int.tdiv (Int.ofNat ((0 : Nat) + nh)) (2 : Int)))) ((0 : Nat) + nh))), Prod.snd (Sc.fz (Ref.root ((1 : Nat) + (1 : Nat) + (1 : Nat) + (1 : Nat) + (1 : Nat) + (1 : Nat) + (1 : Nat) + (1 : Nat) + (1 : Nat)) (0 : Nat)) (FD.list [Sh.int IntKind.i64, Sh.str, Sh.str] (Int.toNat (IntKind.wrap IntKind.i64 (Int.tdiv (Int.ofNat ((0 : Nat) + nh)) (2 : Int)))) fh), Nat.ble (Int.toNat (IntKind.wrap IntKind.i64 (Int.tdiv (Int.ofNat ((0 : Nat) + nh)) (2 : Int)))) ((0 : Nat) + nh))) && Prod.snd (([] : List Sv), true))) = (false)) → False))) ∧ (((decide ((0 : Int) ≤ (0 : Int)) && (decide ((0 : Int) ≤ IntKind.wrap IntKind.i64 (Int.tdiv (Int.ofNat ((0 : Nat) + nh)) (2 : Int))) && decide (IntKind.wrap IntKind.i64 (Int.tdiv (Int.ofNat ((0 : Nat) + nh)) (2 : Int)) ≤ (↑((0 : Nat) + nh) : Int)))) = (false)) → False))) ∧ ((true = false) → False))))) ∧ ((true = false) → False))) ∧ (((decide (wiE ((0 : Nat) + nh) fh p = rwE nh fh p)) = (false)) → (true = false)))
abbrev qlawHistories3 (nh : Nat) (fh : Nat → Nat → FD) (p : List UInt8) : Prop := ((((decide (wiE (0 : Nat) fh p = rwE nh fh p)) = (true)) → (((true = true) → ((((Nat.beq (List.length (wiL (0 : Nat) fh p)) (List.length (if rwE nh fh p = (0 : Int) then rwL nh fh p (List.length (rwA nh fh p)) else [])) && true) = (false)) → (true = false)) ∧ (((Nat.beq (List.length (wiL (0 : Nat) fh p)) (List.length (if rwE nh fh p = (0 : Int) then rwL nh fh p (List.length (rwA nh fh p)) else [])) && true) = (true)) → (((true = true) → (((true = true) → (((true = true) → (((true = true) → (true = true)) ∧ ((true = false) → False))) ∧ ((true = false) → False))) ∧ ((true = false) → False))) ∧ ((true = false) → False))))) ∧ ((true = false) → False))) ∧ (((decide (wiE (0 : Nat) fh p = rwE nh fh p)) = (false)) → (true = false)))
abbrev qlawHistories1 (nh : Nat) (fh : Nat → Nat → FD) (p : List UInt8) (q : List UInt8) : Prop := ((((nmd fh q nh) = (true)) → (((false = true) → (((true = true) → ((((Nat.beq (List.length (baL (0 : Nat) fh q)) (List.length (rbL nh fh q false nh)) && true) = (true)) → ((((nmd fh q nh) = (true)) → (qlawHistories3 nh fh p)) ∧ (((nmd fh q nh) = (false)) → (((true = true) → (((true = false) → (true = false)) ∧ ((true = true) → (qlawHistories3 nh fh p)))) ∧ ((true = false) → (true = false)))))) ∧ (((Nat.beq (List.length (baL (0 : Nat) fh q)) (List.length (rbL nh fh q false nh)) && true) = (false)) → (true = false)))) ∧ ((true = false) → False))) ∧ ((false = false) → (true = false)))) ∧ (((nmd fh q nh) = (false)) → ((((nmd fh q nh) = (true)) → (qlawHistories3 nh fh p)) ∧ (((nmd fh q nh) = (false)) → (((true = true) → (((true = false) → (true = false)) ∧ ((true = true) → (qlawHistories3 nh fh p)))) ∧ ((true = false) → (true = false)))))))
abbrev qlawHistories5 (nh : Nat) (fh : Nat → Nat → FD) (p : List UInt8) (q : List UInt8) : Prop := ((((Option.isSome (stF fh nh p)) = (true)) → (qlawHistories1 nh fh p q)) ∧ (((Option.isSome (stF fh nh p)) = (false)) → (((true = true) → (((true = true) → (((false = true) → (true = false)) ∧ ((false = false) → (((true = true) → (qlawHistories1 nh fh p q)) ∧ ((true = false) → (true = false)))))) ∧ ((true = false) → (true = false)))) ∧ ((true = false) → (true = false)))))
abbrev qlawHistories6 (nh : Nat) (fh : Nat → Nat → FD) (p : List UInt8) (q : List UInt8) : Prop := ((((nmd fh q nh) = (true)) → (qlawHistories0 nh fh p)) ∧ (((nmd fh q nh) = (false)) → ((((decide (baE ((0 : Nat) + nh) fh q = (6 : Int))) = (true)) → ((((decide (Int.ofNat (List.length (baL ((0 : Nat) + nh) fh q)) = (0 : Int))) = (false)) → (true = false)) ∧ (((decide (Int.ofNat (List.length (baL ((0 : Nat) + nh) fh q)) = (0 : Int))) = (true)) → (qlawHistories0 nh fh p)))) ∧ (((decide (baE ((0 : Nat) + nh) fh q = (6 : Int))) = (false)) → (true = false)))))
abbrev qlawHistories2 (nh : Nat) (fh : Nat → Nat → FD) (p : List UInt8) (q : List UInt8) : Prop := ((((nmd fh q nh) = (true)) → ((((decide (baE ((0 : Nat) + nh) fh q = (0 : Int))) = (true)) → (((true = true) → ((((Nat.beq (List.length (baL ((0 : Nat) + nh) fh q)) (List.length (rbL nh fh q false nh)) && natAll (fun (i : Nat) => bytesEq (List.getD (baL ((0 : Nat) + nh) fh q) i []) (List.getD (rbL nh fh q false nh) i [])) (List.length (baL ((0 : Nat) + nh) fh q))) = (true)) → (qlawHistories6 nh fh p q)) ∧ (((Nat.beq (List.length (baL ((0 : Nat) + nh) fh q)) (List.length (rbL nh fh q false nh)) && natAll (fun (i : Nat) => bytesEq (List.getD (baL ((0 : Nat) + nh) fh q) i []) (List.getD (rbL nh fh q false nh) i [])) (List.length (baL ((0 : Nat) + nh) fh q))) = (false)) → (true = false)))) ∧ ((true = false) → False))) ∧ (((decide (baE ((0 : Nat) + nh) fh q = (0 : Int))) = (false)) → (true = false)))) ∧ (((nmd fh q nh) = (false)) → (qlawHistories6 nh fh p q)))
abbrev qlawHistories4 (nh : Nat) (fh : Nat → Nat → FD) (p : List UInt8) (q : List UInt8) : Prop := ((((Option.isSome (stF fh nh p)) = (true)) → (qlawHistories2 nh fh p q)) ∧ (((Option.isSome (stF fh nh p)) = (false)) → ((((decide (soE ((0 : Nat) + nh) fh p = (6 : Int))) = (true)) → ((((bytesEq (Prod.fst (soS ((0 : Nat) + nh) fh p)) []) = (true)) → ((((Prod.fst (Prod.snd (soS ((0 : Nat) + nh) fh p))) = (true)) → (true = false)) ∧ (((Prod.fst (Prod.snd (soS ((0 : Nat) + nh) fh p))) = (false)) → ((((decide (Prod.snd (Prod.snd (soS ((0 : Nat) + nh) fh p)) = (0 : Int))) = (true)) → (qlawHistories2 nh fh p q)) ∧ (((decide (Prod.snd (Prod.snd (soS ((0 : Nat) + nh) fh p)) = (0 : Int))) = (false)) → (true = false)))))) ∧ (((bytesEq (Prod.fst (soS ((0 : Nat) + nh) fh p)) []) = (false)) → (true = false)))) ∧ (((decide (soE ((0 : Nat) + nh) fh p = (6 : Int))) = (false)) → (true = false)))))
abbrev qlawHistories7 (nh : Nat) (fh : Nat → Nat → FD) (p : List UInt8) (q : List UInt8) : Prop := ((((decide (Prod.snd (Prod.snd (soS ((0 : Nat) + nh) fh p)) = Prod.snd (Prod.snd (Option.getD (stF fh nh p) ([], false, (0 : Int)))))) = (true)) → (qlawHistories4 nh fh p q)) ∧ (((decide (Prod.snd (Prod.snd (soS ((0 : Nat) + nh) fh p)) = Prod.snd (Prod.snd (Option.getD (stF fh nh p) ([], false, (0 : Int)))))) = (false)) → (true = false)))
abbrev qlawHistories8 (nh : Nat) (fh : Nat → Nat → FD) (p : List UInt8) (q : List UInt8) : Prop := ((((decide (Prod.snd (Prod.snd (soS (0 : Nat) fh p)) = Prod.snd (Prod.snd (Option.getD (stF fh nh p) ([], false, (0 : Int)))))) = (true)) → (qlawHistories5 nh fh p q)) ∧ (((decide (Prod.snd (Prod.snd (soS (0 : Nat) fh p)) = Prod.snd (Prod.snd (Option.getD (stF fh nh p) ([], false, (0 : Int)))))) = (false)) → (true = false)))
theorem lawHistories_ok : FnOk (mkR smHd gsI) Try.prog η0 14 (FI.of Try.f14 true) lawHistoriesS (.one .bool) lawHistoriesC lawHistoriesR := by
  refine fnOk_of0 smHd_ok gsI_ok Try.fok14 (fun fds => match fds with | [.list _ nh fh, .str p, .str q] => lawHistoriesI nh fh p q | _ => alts fun _ => []) ?_
  intro fds hf hc
  obtain ⟨nh, fh, ds0, rfl, gh, hf1⟩ := hf.list
  obtain ⟨p, ds1, rfl, hf2⟩ := hf1.str
  obtain ⟨q, ds2, rfl, hf3⟩ := hf2.str
  obtain rfl := hf3.nil
  have hc : (true) = true := hc
  have hvc : (vcF smHd gsI (FI.of Try.f14 true) lawHistoriesS (.one .bool) (lawHistoriesI nh fh p q) noR [.list [.int .i64, .str, .str] nh fh, .str p, .str q] (lawHistoriesR [.list [.int .i64, .str, .str] nh fh, .str p, .str q])) =
    ((true = true) ∧ (((true = true) → (((true = false) → (true = false)) ∧ ((true = true) → (((true = true) → ((((evsB nh fh) = (true)) → ((((decide ((20 : Int) < Int.ofNat (List.length p))) = (true)) → (true = true)) ∧ (((decide ((20 : Int) < Int.ofNat (List.length p))) = (false)) → ((((decide ((20 : Int) < Int.ofNat (List.length q))) = (true)) → (true = true)) ∧ (((decide ((20 : Int) < Int.ofNat (List.length q))) = (false)) → ((((true && (true && Nat.ble ((0 : Nat) + nh) (1000000 : Nat))) = (true)) → ((((Nat.beq nh (0 : Nat)) = (true)) → (((true = true) → (((true = true) → (((true = true) → (((true = true) → (((true = true) → (((true = true) → (((true = true) → (((true = true) → ((((refCheckHistoryC [FD.list [Sh.int IntKind.i64, Sh.str, Sh.str] nh fh]) = (true)) → ((((decide (folI (0 : Nat) fh = folI nh fh)) = (true)) → ((((decide (folE (0 : Nat) fh = folE nh fh)) = (false)) → (true = false)) ∧ (((decide (folE (0 : Nat) fh = folE nh fh)) = (true)) → ((((decide (folE nh fh = (0 : Int))) = (false)) → ((((decide (soE (0 : Nat) fh p = folE nh fh)) = (true)) → ((((decide (baE (0 : Nat) fh q = folE nh fh)) = (true)) → ((((decide (wiE (0 : Nat) fh p = folE nh fh)) = (true)) → (((true = true) → (((false = true) → (true = false)) ∧ ((false = false) → (((true = true) → (true = true)) ∧ ((true = false) → (true = false)))))) ∧ ((true = false) → (true = false)))) ∧ (((decide (wiE (0 : Nat) fh p = folE nh fh)) = (false)) → (true = false)))) ∧ (((decide (baE (0 : Nat) fh q = folE nh fh)) = (false)) → (true = false)))) ∧ (((decide (soE (0 : Nat) fh p = folE nh fh)) = (false)) → (true = false)))) ∧ (((decide (folE nh fh = (0 : Int))) = (true)) → ((((StateC [FD.list [Sh.int IntKind.i64, Sh.str, Sh.str] nh fh, FD.str p]) = (true)) → ((((refBatchOfC [FD.list [Sh.int IntKind.i64, Sh.str, Sh.str] nh fh, FD.str q, FD.bool false]) = (true)) → ((((refWitnessesOfC [FD.list [Sh.int IntKind.i64, Sh.str, Sh.str] nh fh, FD.str p]) = (true)) → ((((Option.isSome (stF fh nh p)) = (true)) → (((false = true) → ((((bytesEq (Prod.fst (soS (0 : Nat) fh p)) (Prod.fst (Option.getD (stF fh nh p) ([], false, (0 : Int))))) = (true)) → (((false = true) → ((((Prod.fst (Prod.snd (Option.getD (stF fh nh p) ([], false, (0 : Int))))) = (true)) → (qlawHistories8 nh fh p q)) ∧ (((Prod.fst (Prod.snd (Option.getD (stF fh nh p) ([], false, (0 : Int))))) = (false)) → (true = false)))) ∧ ((false = false) → ((((Prod.fst (Prod.snd (Option.getD (stF fh nh p) ([], false, (0 : Int))))) = (true)) → (true = false)) ∧ (((Prod.fst (Prod.snd (Option.getD (stF fh nh p) ([], false, (0 : Int))))) = (false)) → (qlawHistories8 nh fh p q)))))) ∧ (((bytesEq (Prod.fst (soS (0 : Nat) fh p)) (Prod.fst (Option.getD (stF fh nh p) ([], false, (0 : Int))))) = (false)) → (true = false)))) ∧ ((false = false) → (true = false)))) ∧ (((Option.isSome (stF fh nh p)) = (false)) → (qlawHistories5 nh fh p q)))) ∧ (((refWitnessesOfC [FD.list [Sh.int IntKind.i64, Sh.str, Sh.str] nh fh, FD.str p]) = (false)) → False))) ∧ (((refBatchOfC [FD.list [Sh.int IntKind.i64, Sh.str, Sh.str] nh fh, FD.str q, FD.bool false]) = (false)) → False))) ∧ (((StateC [FD.list [Sh.int IntKind.i64, Sh.str, Sh.str] nh fh, FD.str p]) = (false)) → False))))))) ∧ (((decide (folI (0 : Nat) fh = folI nh fh)) = (false)) → (true = false)))) ∧ (((refCheckHistoryC [FD.list [Sh.int IntKind.i64, Sh.str, Sh.str] nh fh]) = (false)) → False))) ∧ ((true = false) → False))) ∧ ((true = false) → False))) ∧ ((true = false) → False))) ∧ ((true = false) → False))) ∧ ((true = false) → False))) ∧ ((true = false) → False))) ∧ ((true = false) → False))) ∧ ((true = false) → False))) ∧ (((Nat.beq nh (0 : Nat)) = (false)) → ((((Prod.snd (Prod.fst (Sv.one (Prod.fst (Sc.fz (Ref.root ((1 : Nat) + (1 : Nat) + (1 : Nat)) (0 : Nat)) (FD.list [Sh.int IntKind.i64, Sh.str, Sh.str] ((0 : Nat) + nh) fh), Nat.ble ((0 : Nat) + nh) ((0 : Nat) + nh))), Prod.snd (Sc.fz (Ref.root ((1 : Nat) + (1 : Nat) + (1 : Nat)) (0 : Nat)) (FD.list [Sh.int IntKind.i64, Sh.str, Sh.str] ((0 : Nat) + nh) fh), Nat.ble ((0 : Nat) + nh) ((0 : Nat) + nh))) :: Prod.fst ([], true), Prod.snd (Sv.one (Prod.fst (Sc.fz (Ref.root ((1 : Nat) + (1 : Nat) + (1 : Nat)) (0 : Nat)) (FD.list [Sh.int IntKind.i64, Sh.str, Sh.str] ((0 : Nat) + nh) fh), Nat.ble ((0 : Nat) + nh) ((0 : Nat) + nh))), Prod.snd (Sc.fz (Ref.root ((1 : Nat) + (1 : Nat) + (1 : Nat)) (0 : Nat)) (FD.list [Sh.int IntKind.i64, Sh.str, Sh.str] ((0 : Nat) + nh) fh), Nat.ble ((0 : Nat) + nh) ((0 : Nat) + nh))) && Prod.snd (([] : List Sv), true))) = (true)) → ((((CheckHistoryC [FD.list [Sh.int IntKind.i64, Sh.str, Sh.str] ((0 : Nat) + nh) fh]) = (true)) → ((((Prod.snd (Prod.fst (Sv.one (Prod.fst (Sc.fz (Ref.root ((1 : Nat) + (1 : Nat) + (1 : Nat)) (0 : Nat)) (FD.list [Sh.int IntKind.i64, Sh.str, Sh.str] ((0 : Nat) + nh) fh), Nat.ble ((0 : Nat) + nh) ((0 : Nat) + nh))), Prod.snd (Sc.fz (Ref.root ((1 : Nat) + (1 : Nat) + (1 : Nat)) (0 : Nat)) (FD.list [Sh.int IntKind.i64, Sh.str, Sh.str] ((0 : Nat) + nh) fh), Nat.ble ((0 : Nat) + nh) ((0 : Nat) + nh))) :: Prod.fst (Prod.fst (Sv.one (Prod.fst (Sc.ostr p, true)), Prod.snd (Sc.ostr p, true)) :: Prod.fst ([], true), Prod.snd (Sv.one (Prod.fst (Sc.ostr p, true)), Prod.snd (Sc.ostr p, true)) && Prod.snd (([] : List Sv), true)), Prod.snd (Sv.one (Prod.fst (Sc.fz (Ref.root ((1 : Nat) + (1 : Nat) + (1 : Nat)) (0 : Nat)) (FD.list [Sh.int IntKind.i64, Sh.str, Sh.str] ((0 : Nat) + nh) fh), Nat.ble ((0 : Nat) + nh) ((0 : Nat) + nh))), Prod.snd (Sc.fz (Ref.root ((1 : Nat) + (1 : Nat) + (1 : Nat)) (0 : Nat)) (FD.list [Sh.int IntKind.i64, Sh.str, Sh.str] ((0 : Nat) + nh) fh), Nat.ble ((0 : Nat) + nh) ((0 : Nat) + nh))) && Prod.snd (Prod.fst (Sv.one (Prod.fst (Sc.ostr p, true)), Prod.snd (Sc.ostr p, true)) :: Prod.fst ([], true), Prod.snd (Sv.one (Prod.fst (Sc.ostr p, true)), Prod.snd (Sc.ostr p, true)) && Prod.snd (([] : List Sv), true)))) = (true)) → ((((StateOfC [FD.list [Sh.int IntKind.i64, Sh.str, Sh.str] ((0 : Nat) + nh) fh, FD.str p]) = (true)) → ((((Prod.snd (Prod.fst (Sv.one (Prod.fst (Sc.fz (Ref.root ((1 : Nat) + (1 : Nat) + (1 : Nat) + (1 : Nat) + (1 : Nat)) (0 : Nat)) (FD.list [Sh.int IntKind.i64, Sh.str, Sh.str] ((0 : Nat) + nh) fh), Nat.ble ((0 : Nat) + nh) ((0 : Nat) + nh))), Prod.snd (Sc.fz (Ref.root ((1 : Nat) + (1 : Nat) + (1 : Nat) + (1 : Nat) + (1 : Nat)) (0 : Nat)) (FD.list [Sh.int IntKind.i64, Sh.str, Sh.str] ((0 : Nat) + nh) fh), Nat.ble ((0 : Nat) + nh) ((0 : Nat) + nh))) :: Prod.fst (Prod.fst (Sv.one (Prod.fst (Sc.ostr q, true)), Prod.snd (Sc.ostr q, true)) :: Prod.fst ([], true), Prod.snd (Sv.one (Prod.fst (Sc.ostr q, true)), Prod.snd (Sc.ostr q, true)) && Prod.snd (([] : List Sv), true)), Prod.snd (Sv.one (Prod.fst (Sc.fz (Ref.root ((1 : Nat) + (1 : Nat) + (1 : Nat) + (1 : Nat) + (1 : Nat)) (0 : Nat)) (FD.list [Sh.int IntKind.i64, Sh.str, Sh.str] ((0 : Nat) + nh) fh), Nat.ble ((0 : Nat) + nh) ((0 : Nat) + nh))), Prod.snd (Sc.fz (Ref.root ((1 : Nat) + (1 : Nat) + (1 : Nat) + (1 : Nat) + (1 : Nat)) (0 : Nat)) (FD.list [Sh.int IntKind.i64, Sh.str, Sh.str] ((0 : Nat) + nh) fh), Nat.ble ((0 : Nat) + nh) ((0 : Nat) + nh))) && Prod.snd (Prod.fst (Sv.one (Prod.fst (Sc.ostr q, true)), Prod.snd (Sc.ostr q, true)) :: Prod.fst ([], true), Prod.snd (Sv.one (Prod.fst (Sc.ostr q, true)), Prod.snd (Sc.ostr q, true)) && Prod.snd (([] : List Sv), true)))) = (true)) → ((((BatchOfC [FD.list [Sh.int IntKind.i64, Sh.str, Sh.str] ((0 : Nat) + nh) fh, FD.str q]) = (true)) → ((((Prod.snd (Prod.fst (Sv.one (Prod.fst (Sc.fz (Ref.root ((1 : Nat) + (1 : Nat) + (1 : Nat) + (1 : Nat) + (1 : Nat) + (1 : Nat)) (0 : Nat)) (FD.list [Sh.int IntKind.i64, Sh.str, Sh.str] ((0 : Nat) + nh) fh), Nat.ble ((0 : Nat) + nh) ((0 : Nat) + nh))), Prod.snd (Sc.fz (Ref.root ((1 : Nat) + (1 : Nat) + (1 : Nat) + (1 : Nat) + (1 : Nat) + (1 : Nat)) (0 : Nat)) (FD.list [Sh.int IntKind.i64, Sh.str, Sh.str] ((0 : Nat) + nh) fh), Nat.ble ((0 : Nat) + nh) ((0 : Nat) + nh))) :: Prod.fst (Prod.fst (Sv.one (Prod.fst (Sc.ostr p, true)), Prod.snd (Sc.ostr p, true)) :: Prod.fst ([], true), Prod.snd (Sv.one (Prod.fst (Sc.ostr p, true)), Prod.snd (Sc.ostr p, true)) && Prod.snd (([] : List Sv), true)), Prod.snd (Sv.one (Prod.fst (Sc.fz (Ref.root ((1 : Nat) + (1 : Nat) + (1 : Nat) + (1 : Nat) + (1 : Nat) + (1 : Nat)) (0 : Nat)) (FD.list [Sh.int IntKind.i64, Sh.str, Sh.str] ((0 : Nat) + nh) fh), Nat.ble ((0 : Nat) + nh) ((0 : Nat) + nh))), Prod.snd (Sc.fz (Ref.root ((1 : Nat) + (1 : Nat) + (1 : Nat) + (1 : Nat) + (1 : Nat) + (1 : Nat)) (0 : Nat)) (FD.list [Sh.int IntKind.i64, Sh.str, Sh.str] ((0 : Nat) + nh) fh), Nat.ble ((0 : Nat) + nh) ((0 : Nat) + nh))) && Prod.snd (Prod.fst (Sv.one (Prod.fst (Sc.ostr p, true)), Prod.snd (Sc.ostr p, true)) :: Prod.fst ([], true), Prod.snd (Sv.one (Prod.fst (Sc.ostr p, true)), Prod.snd (Sc.ostr p, true)) && Prod.snd (([] : List Sv), true)))) = (true)) → ((((WitnessesOfC [FD.list [Sh.int IntKind.i64, Sh.str, Sh.str] ((0 : Nat) + nh) fh, FD.str p]) = (true)) → ((((refCheckHistoryC [FD.list [Sh.int IntKind.i64, Sh.str, Sh.str] nh fh]) = (true)) → ((((decide (folI ((0 : Nat) + nh) fh = folI nh fh)) = (true)) → ((((decide (folE ((0 : Nat) + nh) fh = folE nh fh)) = (false)) → (true = false)) ∧ (((decide (folE ((0 : Nat) + nh) fh = folE nh fh)) = (true)) → ((((decide (folE nh fh = (0 : Int))) = (false)) → ((((decide (soE ((0 : Nat) + nh) fh p = folE nh fh)) = (true)) → ((((decide (baE ((0 : Nat) + nh) fh q = folE nh fh)) = (true)) → ((((decide (wiE ((0 : Nat) + nh) fh p = folE nh fh)) = (true)) → ((((bytesEq (Prod.fst (soS ((0 : Nat) + nh) fh p)) []) = (true)) → ((((Prod.fst (Prod.snd (soS ((0 : Nat) + nh) fh p))) = (true)) → (true = false)) ∧ (((Prod.fst (Prod.snd (soS ((0 : Nat) + nh) fh p))) = (false)) → ((((decide (Prod.snd (Prod.snd (soS ((0 : Nat) + nh) fh p)) = (0 : Int))) = (true)) → (true = decide (IntKind.wrap IntKind.i64 (Int.ofNat (List.length (baL ((0 : Nat) + nh) fh q)) + Int.ofNat (List.length (wiL ((0 : Nat) + nh) fh p))) = (0 : Int)))) ∧ (((decide (Prod.snd (Prod.snd (soS ((0 : Nat) + nh) fh p)) = (0 : Int))) = (false)) → (true = false)))))) ∧ (((bytesEq (Prod.fst (soS ((0 : Nat) + nh) fh p)) []) = (false)) → (true = false)))) ∧ (((decide (wiE ((0 : Nat) + nh) fh p = folE nh fh)) = (false)) → (true = false)))) ∧ (((decide (baE ((0 : Nat) + nh) fh q = folE nh fh)) = (false)) → (true = false)))) ∧ (((decide (soE ((0 : Nat) + nh) fh p = folE nh fh)) = (false)) → (true = false)))) ∧ (((decide (folE nh fh = (0 : Int))) = (true)) → ((((StateC [FD.list [Sh.int IntKind.i64, Sh.str, Sh.str] nh fh, FD.str p]) = (true)) → ((((refBatchOfC [FD.list [Sh.int IntKind.i64, Sh.str, Sh.str] nh fh, FD.str q, FD.bool false]) = (true)) → ((((refWitnessesOfC [FD.list [Sh.int IntKind.i64, Sh.str, Sh.str] nh fh, FD.str p]) = (true)) → ((((Option.isSome (stF fh nh p)) = (true)) → ((((decide (soE ((0 : Nat) + nh) fh p = (0 : Int))) = (true)) → ((((bytesEq (Prod.fst (soS ((0 : Nat) + nh) fh p)) (Prod.fst (Option.getD (stF fh nh p) ([], false, (0 : Int))))) = (true)) → ((((Prod.fst (Prod.snd (soS ((0 : Nat) + nh) fh p))) = (true)) → ((((Prod.fst (Prod.snd (Option.getD (stF fh nh p) ([], false, (0 : Int))))) = (true)) → (qlawHistories7 nh fh p q)) ∧ (((Prod.fst (Prod.snd (Option.getD (stF fh nh p) ([], false, (0 : Int))))) = (false)) → (true = false)))) ∧ (((Prod.fst (Prod.snd (soS ((0 : Nat) + nh) fh p))) = (false)) → ((((Prod.fst (Prod.snd (Option.getD (stF fh nh p) ([], false, (0 : Int))))) = (true)) → (true = false)) ∧ (((Prod.fst (Prod.snd (Option.getD (stF fh nh p) ([], false, (0 : Int))))) = (false)) → (qlawHistories7 nh fh p q)))))) ∧ (((bytesEq (Prod.fst (soS ((0 : Nat) + nh) fh p)) (Prod.fst (Option.getD (stF fh nh p) ([], false, (0 : Int))))) = (false)) → (true = false)))) ∧ (((decide (soE ((0 : Nat) + nh) fh p = (0 : Int))) = (false)) → (true = false)))) ∧ (((Option.isSome (stF fh nh p)) = (false)) → (qlawHistories4 nh fh p q)))) ∧ (((refWitnessesOfC [FD.list [Sh.int IntKind.i64, Sh.str, Sh.str] nh fh, FD.str p]) = (false)) → False))) ∧ (((refBatchOfC [FD.list [Sh.int IntKind.i64, Sh.str, Sh.str] nh fh, FD.str q, FD.bool false]) = (false)) → False))) ∧ (((StateC [FD.list [Sh.int IntKind.i64, Sh.str, Sh.str] nh fh, FD.str p]) = (false)) → False))))))) ∧ (((decide (folI ((0 : Nat) + nh) fh = folI nh fh)) = (false)) → (true = false)))) ∧ (((refCheckHistoryC [FD.list [Sh.int IntKind.i64, Sh.str, Sh.str] nh fh]) = (false)) → False))) ∧ (((WitnessesOfC [FD.list [Sh.int IntKind.i64, Sh.str, Sh.str] ((0 : Nat) + nh) fh, FD.str p]) = (false)) → False))) ∧ (((Prod.snd (Prod.fst (Sv.one (Prod.fst (Sc.fz (Ref.root ((1 : Nat) + (1 : Nat) + (1 : Nat) + (1 : Nat) + (1 : Nat) + (1 : Nat)) (0 : Nat)) (FD.list [Sh.int IntKind.i64, Sh.str, Sh.str] ((0 : Nat) + nh) fh), Nat.ble ((0 : Nat) + nh) ((0 : Nat) + nh))), Prod.snd (Sc.fz (Ref.root ((1 : Nat) + (1 : Nat) + (1 : Nat) + (1 : Nat) + (1 : Nat) + (1 : Nat)) (0 : Nat)) (FD.list [Sh.int IntKind.i64, Sh.str, Sh.str] ((0 : Nat) + nh) fh), Nat.ble ((0 : Nat) + nh) ((0 : Nat) + nh))) :: Prod.fst (Prod.fst (Sv.one (Prod.fst (Sc.ostr p, true)), Prod.snd (Sc.ostr p, true)) :: Prod.fst ([], true), Prod.snd (Sv.one (Prod.fst (Sc.ostr p, true)), Prod.snd (Sc.ostr p, true)) && Prod.snd (([] : List Sv), true)), Prod.snd (Sv.one (Prod.fst (Sc.fz (Ref.root ((1 : Nat) + (1 : Nat) + (1 : Nat) + (1 : Nat) + (1 : Nat) + (1 : Nat)) (0 : Nat)) (FD.list [Sh.int IntKind.i64, Sh.str, Sh.str] ((0 : Nat) + nh) fh), Nat.ble ((0 : Nat) + nh) ((0 : Nat) + nh))), Prod.snd (Sc.fz (Ref.root ((1 : Nat) + (1 : Nat) + (1 : Nat) + (1 : Nat) + (1 : Nat) + (1 : Nat)) (0 : Nat)) (FD.list [Sh.int IntKind.i64, Sh.str, Sh.str] ((0 : Nat) + nh) fh), Nat.ble ((0 : Nat) + nh) ((0 : Nat) + nh))) && Prod.snd (Prod.fst (Sv.one (Prod.fst (Sc.ostr p, true)), Prod.snd (Sc.ostr p, true)) :: Prod.fst ([], true), Prod.snd (Sv.one (Prod.fst (Sc.ostr p, true)), Prod.snd (Sc.ostr p, true)) && Prod.snd (([] : List Sv), true)))) = (false)) → False))) ∧ (((BatchOfC [FD.list [Sh.int IntKind.i64, Sh.str, Sh.str] ((0 : Nat) + nh) fh, FD.str q]) = (false)) → False))) ∧ (((Prod.snd (Prod.fst (Sv.one (Prod.fst (Sc.fz (Ref.root ((1 : Nat) + (1 : Nat) + (1 : Nat) + (1 : Nat) + (1 : Nat)) (0 : Nat)) (FD.list [Sh.int IntKind.i64, Sh.str, Sh.str] ((0 : Nat) + nh) fh), Nat.ble ((0 : Nat) + nh) ((0 : Nat) + nh))), Prod.snd (Sc.fz (Ref.root ((1 : Nat) + (1 : Nat) + (1 : Nat) + (1 : Nat) + (1 : Nat)) (0 : Nat)) (FD.list [Sh.int IntKind.i64, Sh.str, Sh.str] ((0 : Nat) + nh) fh), Nat.ble ((0 : Nat) + nh) ((0 : Nat) + nh))) :: Prod.fst (Prod.fst (Sv.one (Prod.fst (Sc.ostr q, true)), Prod.snd (Sc.ostr q, true)) :: Prod.fst ([], true), Prod.snd (Sv.one (Prod.fst (Sc.ostr q, true)), Prod.snd (Sc.ostr q, true)) && Prod.snd (([] : List Sv), true)), Prod.snd (Sv.one (Prod.fst (Sc.fz (Ref.root ((1 : Nat) + (1 : Nat) + (1 : Nat) + (1 : Nat) + (1 : Nat)) (0 : Nat)) (FD.list [Sh.int IntKind.i64, Sh.str, Sh.str] ((0 : Nat) + nh) fh), Nat.ble ((0 : Nat) + nh) ((0 : Nat) + nh))), Prod.snd (Sc.fz (Ref.root ((1 : Nat) + (1 : Nat) + (1 : Nat) + (1 : Nat) + (1 : Nat)) (0 : Nat)) (FD.list [Sh.int IntKind.i64, Sh.str, Sh.str] ((0 : Nat) + nh) fh), Nat.ble ((0 : Nat) + nh) ((0 : Nat) + nh))) && Prod.snd (Prod.fst (Sv.one (Prod.fst (Sc.ostr q, true)), Prod.snd (Sc.ostr q, true)) :: Prod.fst ([], true), Prod.snd (Sv.one (Prod.fst (Sc.ostr q, true)), Prod.snd (Sc.ostr q, true)) && Prod.snd (([] : List Sv), true)))) = (false)) → False))) ∧ (((StateOfC [FD.list [Sh.int IntKind.i64, Sh.str, Sh.str] ((0 : Nat) + nh) fh, FD.str p]) = (false)) → False))) ∧ (((Prod.snd (Prod.fst (Sv.one (Prod.fst (Sc.fz (Ref.root ((1 : Nat) + (1 : Nat) + (1 : Nat)) (0 : Nat)) (FD.list [Sh.int IntKind.i64, Sh.str, Sh.str] ((0 : Nat) + nh) fh), Nat.ble ((0 : Nat) + nh) ((0 : Nat) + nh))), Prod.snd (Sc.fz (Ref.root ((1 : Nat) + (1 : Nat) + (1 : Nat)) (0 : Nat)) (FD.list [Sh.int IntKind.i64, Sh.str, Sh.str] ((0 : Nat) + nh) fh), Nat.ble ((0 : Nat) + nh) ((0 : Nat) + nh))) :: Prod.fst (Prod.fst (Sv.one (Prod.fst (Sc.ostr p, true)), Prod.snd (Sc.ostr p, true)) :: Prod.fst ([], true), Prod.snd (Sv.one (Prod.fst (Sc.ostr p, true)), Prod.snd (Sc.ostr p, true)) && Prod.snd (([] : List Sv), true)), Prod.snd (Sv.one (Prod.fst (Sc.fz (Ref.root ((1 : Nat) + (1 : Nat) + (1 : Nat)) (0 : Nat)) (FD.list [Sh.int IntKind.i64, Sh.str, Sh.str] ((0 : Nat) + nh) fh), Nat.ble ((0 : Nat) + nh) ((0 : Nat) + nh))), Prod.snd (Sc.fz (Ref.root ((1 : Nat) + (1 : Nat) + (1 : Nat)) (0 : Nat)) (FD.list [Sh.int IntKind.i64, Sh.str, Sh.str] ((0 : Nat) + nh) fh), Nat.ble ((0 : Nat) + nh) ((0 : Nat) + nh))) && Prod.snd (Prod.fst (Sv.one (Prod.fst (Sc.ostr p, true)), Prod.snd (Sc.ostr p, true)) :: Prod.fst ([], true), Prod.snd (Sv.one (Prod.fst (Sc.ostr p, true)), Prod.snd (Sc.ostr p, true)) && Prod.snd (([] : List Sv), true)))) = (false)) → False))) ∧ (((CheckHistoryC [FD.list [Sh.int IntKind.i64, Sh.str, Sh.str] ((0 : Nat) + nh) fh]) = (false)) → False))) ∧ (((Prod.snd (Prod.fst (Sv.one (Prod.fst (Sc.fz (Ref.root ((1 : Nat) + (1 : Nat) + (1 : Nat)) (0 : Nat)) (FD.list [Sh.int IntKind.i64, Sh.str, Sh.str] ((0 : Nat) + nh) fh), Nat.ble ((0 : Nat) + nh) ((0 : Nat) + nh))), Prod.snd (Sc.fz (Ref.root ((1 : Nat) + (1 : Nat) + (1 : Nat)) (0 : Nat)) (FD.list [Sh.int IntKind.i64, Sh.str, Sh.str] ((0 : Nat) + nh) fh), Nat.ble ((0 : Nat) + nh) ((0 : Nat) + nh))) :: Prod.fst ([], true), Prod.snd (Sv.one (Prod.fst (Sc.fz (Ref.root ((1 : Nat) + (1 : Nat) + (1 : Nat)) (0 : Nat)) (FD.list [Sh.int IntKind.i64, Sh.str, Sh.str] ((0 : Nat) + nh) fh), Nat.ble ((0 : Nat) + nh) ((0 : Nat) + nh))), Prod.snd (Sc.fz (Ref.root ((1 : Nat) + (1 : Nat) + (1 : Nat)) (0 : Nat)) (FD.list [Sh.int IntKind.i64, Sh.str, Sh.str] ((0 : Nat) + nh) fh), Nat.ble ((0 : Nat) + nh) ((0 : Nat) + nh))) && Prod.snd (([] : List Sv), true))) = (false)) → False))))) ∧ (((true && (true && Nat.ble ((0 : Nat) + nh) (1000000 : Nat))) = (false)) → False))))))) ∧ (((evsB nh fh) = (false)) → (true = true)))) ∧ ((true = false) → False))))) ∧ ((true = false) → False))) := by kernel_rfl
  refine hvc.mpr ?_
  clear hvc
  dsimp only [qlawHistories0, qlawHistories3, qlawHistories1, qlawHistories5, qlawHistories6, qlawHistories2, qlawHistories4, qlawHistories7, qlawHistories8]
  cases hb : evsB nh fh with
  | false => simp [hb]
  | true =>
    have a1 : CheckHistoryC [FD.list [Sh.int IntKind.i64, Sh.str, Sh.str] nh fh] = true := hb
    have a2 : StateOfC [FD.list [Sh.int IntKind.i64, Sh.str, Sh.str] nh fh, FD.str p] = true := hb
    have a3 : BatchOfC [FD.list [Sh.int IntKind.i64, Sh.str, Sh.str] nh fh, FD.str q] = true := hb
    have a4 : WitnessesOfC [FD.list [Sh.int IntKind.i64, Sh.str, Sh.str] nh fh, FD.str p] = true := hb
    have a5 : refCheckHistoryC [FD.list [Sh.int IntKind.i64, Sh.str, Sh.str] nh fh] = true := hb
    have nr : ∀ l : List (List UInt8), natAll (fun i => bytesEq (l[i]?.getD []) (l[i]?.getD [])) l.length = true := fun l => allN_of fun i _ => bytesEq_true.2 rfl
    have br : ∀ l : List UInt8, bytesEq l l = true := fun l => bytesEq_true.2 rfl
    by_cases h : folE nh fh = 0
    · obtain ⟨h100, hf⟩ := folE_fir h
      obtain ⟨b1, b2, b3, b4, b5, b6, b7, b8, b9⟩ := his_ok h p q
      have hkk : kindsB nh fh = true := kindsB_of (by omega) fun i hi => evE_kind (firE_low hf i hi)
      have a6 : StateC [FD.list [Sh.int IntKind.i64, Sh.str, Sh.str] nh fh, FD.str p] = true := hkk
      have a7 : refBatchOfC [FD.list [Sh.int IntKind.i64, Sh.str, Sh.str] nh fh, FD.str q, FD.bool false] = true := hkk
      have a8 : refWitnessesOfC [FD.list [Sh.int IntKind.i64, Sh.str, Sh.str] nh fh, FD.str p] = true := hkk
      have hi := folI_ok h
      have hle := (evsB_spec hb).1
      have hw : IntKind.i64.wrap ((nh : Int) / 2) = ((nh / 2 : Nat) : Int) := by rw [wrap_id (by omega) (by omega)]; rfl
      have hT : ∀ k, natAll (fun _ => true) k = true := fun k => allN_of fun _ _ => rfl
      have hev := evsB_spec hb
      have hH : CheckHistoryC [FD.list [Sh.int IntKind.i64, Sh.str, Sh.str] (nh / 2) fh] = true := by
        show evsB (nh / 2) fh = true
        simp only [evsB, Bool.and_eq_true, Bool.or_eq_true, Nat.ble_eq]
        refine ⟨.inl (by omega), allN_of fun i hi => ?_⟩
        have := hev.2.2 i (by omega)
        simp only [evAt, Bool.and_eq_true, Nat.ble_eq]
        exact this
      have hE : folE (nh / 2) fh = 0 := b9 _ (by omega)
      have h1000 : nh ≤ 1000000 := by omega
      have hd : nh / 2 ≤ nh := by omega
      have hd2 : 0 ≤ ((nh / 2 : Nat) : Int) := by omega
      have hx : ((nh : Int) / 2).toNat = nh / 2 := by omega
      have hd3 : (nh : Int) / 2 ≤ nh := by omega
      have hd4 : 0 ≤ (nh : Int) / 2 := by omega
      by_cases hn0 : nh = 0
      · subst hn0
        have c1 : stF fh 0 p = none := rfl
        have c2 : nmd fh q 0 = false := rfl
        have c3 : wiE 0 fh p = 6 := rfl
        have c4 : rwE 0 fh p = 6 := rfl
        have c5 : wiL 0 fh p = [] := rfl
        simp [hb, a1, a2, a3, a4, a5, a6, a7, a8, h, hi, c1, c2, c3, c4, c5, br, nr]
      · cases hm : nmd fh q nh <;> cases hs : stF fh nh p <;> by_cases hr : rwE nh fh p = 0 <;>
          simp [hb, a1, a2, a3, a4, a5, a6, a7, a8, h, hi, b1, b2, b3, b4, b5, b6, b7, b8, hn0, br, nr, hm, hs, hr, hw, hT, hH, hE, h1000, hx, hd, hd2, hd3, hd4]
    · obtain ⟨b1, b2, b3, b4, b5, b6⟩ := his_no h p q
      have hn0 : nh ≠ 0 := fun e => h (by subst e; rfl)
      have hle := (evsB_spec hb).1
      simp [hb, a1, a2, a3, a4, a5, h, b1, b2, b3, b4, b5, b6, hn0, br]
      exact fun _ _ => ⟨fun _ _ => wrap_id (by decide) (by decide), by omega⟩
end
end Go.Ex

