/-
  The iterator over the places of a part.
-/
import Derived.Test.YtdpabnfcfakjeaaLwFa
import Derived.RangeFuncNested
import Derived.RangeFuncBound
import Derived.RangeFuncCalls
import Derived.RangeFuncLeaves
import Derived.Shelf.Abstract
import Derived.Shelf.RegionOpen
import Derived.WalkKit
import Derived.OwnWalkIn
import Derived.TacticsInMore
import Derived.LoopNIn
import Derived.LoopIn

namespace Go.Ex
open Go Go.Proofs Go.RowKit Go.Shelf
attribute [local go_sem] Oper.semAt_some
noncomputable section

def nilE : Emb := ⟨fun _ => none, fun _ _ => none, fun _ _ => none, fun _ => none, ⟨[], fun _ _ => none⟩⟩
theorem nilE_zw (w : World) : ZW nilE w := fun _ _ _ h => by cases h
theorem gives_calls {f : FuncId} {fi : FI} (hF : FI.Ok Try.prog f fi) {ags : Array Value} {w : World} {v : Value} (h : Gives Try.prog f ags w v) : Calls Try.prog f ags w fun e w' => e = .returned v ∧ Below w.heap.size w w' := by
  rcases h with h | ⟨_, h⟩
  · rw [run_callFunc hF] at h; cases h
  · exact h
theorem at_calls (st pl ho ge p h s : Int) (h1 : pl ≠ 0) (h2 : st ≠ 0) (h3 : ho ≠ 0) (w : World) : Calls Try.prog 115 #[.agg #[.int .i64 st, .int .i64 pl, .int .i64 ho, .int .i64 ge, .int .i64 p, .int .i64 h], .int .i64 s] w fun e w' =>
    e = .returned (.tuple #[.int .i64 (Int.tmod (wrapI (s + wrapI (p * wrapI (st.tdiv pl)))) st), .int .i64 (Int.tmod (wrapI (h + wrapI (ge * s))) ho)]) ∧ Below w.heap.size w w' := by
  have hs := smOk_of sm0_ok gs0_ok at_ok rfl [.agg [.int .i64 (.tm st), .int .i64 (.tm pl), .int .i64 (.tm ho), .int .i64 (.tm ge), .int .i64 (.tm p), .int .i64 (.tm h)], .one (.int .i64 (.tm s))] []
    (resS (.tup [.one (.int .i64), .one (.int .i64)]) [.int .i64 (Int.tmod (wrapI (s + wrapI (p * wrapI (st.tdiv pl)))) st), .int .i64 (Int.tmod (wrapI (h + wrapI (ge * s))) ho)]) [] ?_ (fun x hx => by cases hx)
  · obtain ⟨v, e1, e2⟩ := hs.2 nilE [.agg #[.int .i64 st, .int .i64 pl, .int .i64 ho, .int .i64 ge, .int .i64 p, .int .i64 h], .int .i64 s] w (nilE_zw w) rfl
    cases e1
    exact gives_calls Try.fok115 e2
  · show Tree.at_ η0 (chk (!decide (pl = 0) && (!decide (st = 0) && !decide (ho = 0))) _) = _
    simp only [chk, Tree.at_, Atom.den, h1, h2, h3, decide_false, Bool.not_false, Bool.and_self, if_true]
    rfl

theorem wrapI_nat {k : Nat} (h : k ≤ 9223372036854775807) : wrapI (k : Int) = k := wrap_id (by omega) (by omega)
theorem at_nice (st pl ho ge p h s : Nat) (hpl : 0 < pl) (b1 : st ≤ 1000) (b2 : p ≤ 1000) (b3 : h ≤ 1000) (b4 : ge ≤ 1000) (b5 : s ≤ 1000000000000) :
    Int.tmod (wrapI ((s : Int) + wrapI ((p : Int) * wrapI ((st : Int).tdiv pl)))) st = (((s + p * (st / pl)) % st : Nat) : Int) ∧ Int.tmod (wrapI ((h : Int) + wrapI ((ge : Int) * s))) ho = (((h + ge * s) % ho : Nat) : Int) := by
  have e1 : (st : Int).tdiv pl = ((st / pl : Nat) : Int) := by rw [Int.tdiv_eq_ediv_of_nonneg (by omega)]; exact (Int.natCast_ediv st pl).symm
  have h1 : st / pl ≤ 1000 := Nat.le_trans (Nat.div_le_self _ _) b1
  have h2 : p * (st / pl) ≤ 1000 * 1000 := Nat.mul_le_mul b2 h1
  have h3 : ge * s ≤ 1000 * 1000000000000 := Nat.mul_le_mul b4 b5
  rw [e1, wrapI_nat (by omega)]
  rw [show (p : Int) * ((st / pl : Nat) : Int) = ((p * (st / pl) : Nat) : Int) by rw [Int.natCast_mul], show (ge : Int) * (s : Int) = ((ge * s : Nat) : Int) by rw [Int.natCast_mul]]
  rw [wrapI_nat (by omega), wrapI_nat (by omega)]
  rw [show (s : Int) + ((p * (st / pl) : Nat) : Int) = ((s + p * (st / pl) : Nat) : Int) by omega, show (h : Int) + ((ge * s : Nat) : Int) = ((h + ge * s : Nat) : Int) by omega]
  rw [wrapI_nat (by omega), wrapI_nat (by omega)]
  rw [Int.tmod_eq_emod_of_nonneg (by omega), Int.tmod_eq_emod_of_nonneg (by omega)]
  exact ⟨(Int.natCast_emod _ _).symm, (Int.natCast_emod _ _).symm⟩
def riderV (st pl ho ge p h : Nat) : List Value := [.int .i64 (st : Int), .int .i64 (pl : Int), .int .i64 (ho : Int), .int .i64 (ge : Int), .int .i64 (p : Int), .int .i64 (h : Int)]
def placesL (st pl ge p h n : Nat) : List (Nat × Nat) := (List.range n).map fun s => (s + p * (st / pl), h + ge * s)
def intV : Value → Nat
  | .int _ n => n.toNat
  | _ => 0
theorem places_iter (st pl ho ge p h n : Nat) (hst : 0 < st) (hpl : 0 < pl) (hho : 0 < ho) (b1 : st ≤ 1000) (b2 : p ≤ 1000) (b3 : h ≤ 1000) (b4 : ge ≤ 1000) (b5 : n ≤ 1000000000000) :
    IterOk Try.prog 142 [[.int .i64 (n : Int)], riderV st pl ho ge p h] (fun x : Nat × Nat => [.int .i64 ((x.1 % st : Nat) : Int), .int .i64 ((x.2 % ho : Nat) : Int)]) (placesL st pl ge p h n) := by
  refine ⟨fun ags w => run_callFunc Try.fok142 ags w, fun Bs W0 N hN hBl hCH l J Jx W hb hJ hJx hY h0 => ?_⟩
  match Bs, hBl with
  | [c1, c2], _ =>
    have hcell : ∀ (i B : Nat) (vs : List Value) (o : Nat) (v : Value), [c1, c2][i]? = some B → [[Value.int .i64 (n : Int)], riderV st pl ho ge p h][i]? = some vs → vs[o]? = some v → W.cell? ⟨B, o, none⟩ = some v := fun i B vs o v h1 h2 h3 => by
      have := hCH i B vs o v h1 h2 h3
      have hlt : B < W0.heap.size := by
        obtain ⟨o', ho', _⟩ := cells_of_cell this
        exact (Array.getElem?_eq_some_iff.1 ho').1
      exact (hb.cell (p := ⟨B, o, none⟩) hlt).trans this
    have q1 : W.cell? ⟨c1, 0, none⟩ = some (.int .i64 (n : Int)) := hcell 0 c1 _ 0 _ rfl rfl rfl
    obtain ⟨F, hFe⟩ : ∃ F, F = FW none := ⟨_, rfl⟩
    have hFn : ∀ f, F.fn f := fun f => by rw [hFe]; trivial
    have hro : F.round = none := by rw [hFe]; rfl
    have hat : ∀ (s : Nat), s ≤ 1000000000000 → ∀ (k : Nat) (w : World), CallsIn F k Try.prog 115 #[.agg #[.int .i64 (st : Int), .int .i64 (pl : Int), .int .i64 (ho : Int), .int .i64 (ge : Int), .int .i64 (p : Int), .int .i64 (h : Int)], .int .i64 (s : Int)] w fun e w' =>
        e = .returned (.tuple #[.int .i64 (((s + p * (st / pl)) % st : Nat) : Int), .int .i64 (((h + ge * s) % ho : Nat) : Int)]) ∧ Below w.heap.size w w' := fun s hs k w => by
      rw [hFe]
      have := at_calls st pl ho ge p h s (by omega) (by omega) (by omega) w
      obtain ⟨e1, e2⟩ := at_nice st pl ho ge p h s hpl b1 b2 b3 b4 hs
      rw [e1, e2] at this
      exact callsIn_wide.2 this
    rw [← hFe] at hY ⊢
    clear hFe
    have h115 := hFn 115
    have hN1 : 1 ≤ N := by omega
    have hN2 : 1 ≤ N - 1 := by omega
    have h142 := hFn 142
    refine callsIn_of_wp Try.func142 rfl h142 ?_ hro
    simp only [Try.ntmps142, List.map_cons, List.map_nil, List.size_toArray, List.length_cons, List.length_nil, Nat.reduceAdd, Nat.reduceSub, Array.replicate_succ, Array.replicate_zero, List.push_toArray, List.append_toArray, List.nil_append, List.cons_append]
    have hCW : CellsHold [c1, c2] [[.int .i64 (n : Int)], riderV st pl ho ge p h] W := hcell
    gi_wp2
    gi_loopw [6] (fun v wr => ∃ s : Nat, s ≤ n ∧ v = .int .i64 (s : Int) ∧ CellsHold [c1, c2] [[.int .i64 (n : Int)], riderV st pl ho ge p h] wr ∧ J ((List.range s).map fun s => (s + p * (st / pl), h + ge * s)) wr) (fun v _ => n - intV v)
    case atStart => exact ⟨0, Nat.zero_le _, rfl, hCW, h0⟩
    case round =>
      obtain ⟨s, hs, rfl, hc, hJs⟩ := hrel
      have r0 : wr.cell? ⟨c2, 0, none⟩ = some (.int .i64 (st : Int)) := hc 1 c2 _ 0 _ rfl rfl rfl
      have r1 : wr.cell? ⟨c2, 1, none⟩ = some (.int .i64 (pl : Int)) := hc 1 c2 _ 1 _ rfl rfl rfl
      have r2 : wr.cell? ⟨c2, 2, none⟩ = some (.int .i64 (ho : Int)) := hc 1 c2 _ 2 _ rfl rfl rfl
      have r3 : wr.cell? ⟨c2, 3, none⟩ = some (.int .i64 (ge : Int)) := hc 1 c2 _ 3 _ rfl rfl rfl
      have r4 : wr.cell? ⟨c2, 4, none⟩ = some (.int .i64 (p : Int)) := hc 1 c2 _ 4 _ rfl rfl rfl
      have r5 : wr.cell? ⟨c2, 5, none⟩ = some (.int .i64 (h : Int)) := hc 1 c2 _ 5 _ rfl rfl rfl
      have hlen : s < n → ((List.range s).map fun s => (s + p * (st / pl), h + ge * s)).length < (placesL st pl ge p h n).length := fun hs => by simp [placesL]; exact hs
      have hkeepJ : ∀ w1, Below wr.heap.size wr w1 → J ((List.range s).map fun s => (s + p * (st / pl), h + ge * s)) w1 := fun w1 hB => hJ _ _ _ none hJs ⟨hB.os, hB.tape, hB.output, hB.size, fun k hk _ => hB.block k hk⟩ (fun r e => by cases e)
      have hkeepC : ∀ w1, Below wr.heap.size wr w1 → CellsHold [c1, c2] [[.int .i64 (n : Int)], riderV st pl ho ge p h] w1 := fun w1 hB i B vs o v h1 h2 h3 => by
        have := hc i B vs o v h1 h2 h3
        obtain ⟨o', ho', _⟩ := cells_of_cell this
        exact (hB.cell (p := ⟨B, o, none⟩) (Array.getElem?_eq_some_iff.1 ho').1).trans this
      gi_wp2_with (gi_at_call 115; refine (hat s (by omega) _ _).mono ?_; rintro e w1 ⟨rfl, hB1⟩; obtain ⟨fn, tmps, assign, body, hy, hR⟩ := hY _ (s + p * (st / pl), h + ge * s) w1 (hkeepJ w1 hB1) (hlen (by assumption)); simp only [Int.natCast_emod, Int.natCast_add, Int.natCast_mul, Int.natCast_ediv] at hy)
      · refine hR.mono ?_
        rintro e W3 (⟨rfl, hJ3, hk3⟩ | ⟨rfl, hJx3⟩)
        · have hc3 := hk3 (hkeepC w1 hB1)
          have hsn : s < n := by assumption
          gi_wp2
          refine ⟨⟨s + 1, by omega, by simp, hc3, ?_⟩, ?_⟩
          · rw [List.range_succ, List.map_append]; exact hJ3
          · simp only [intV]; omega
        · have hsn : s < n := by assumption
          gi_wp2
          refine bodyPost_ret (results_none rfl _ _ _) rfl ?_
          refine ⟨⟨_, rfl⟩, .inr ⟨_, ?_, hJx3⟩⟩
          refine ⟨((List.range (n - (s + 1))).map (s + 1 + ·)).map fun s => (s + p * (st / pl), h + ge * s), ?_⟩
          show _ = (List.range n).map _
          rw [show n = (s + 1) + (n - (s + 1)) by omega, List.range_add, List.map_append, List.range_succ, List.map_append]
          simp
      · have hsn : s = n := by have : ¬ s < n := by assumption
                               omega
        subst hsn
        go_end0
        exact ⟨⟨_, rfl⟩, .inl ⟨_, rfl, hJs⟩⟩

end
end Go.Ex

