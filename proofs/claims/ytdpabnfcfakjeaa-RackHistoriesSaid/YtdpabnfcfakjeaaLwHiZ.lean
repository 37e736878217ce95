/-
  slices.DeleteFunc with the closure of add: what it leaves.
-/
import Derived.Test.YtdpabnfcfakjeaaLwLdA
import Derived.Test.YtdpabnfcfakjeaaExG
import Derived.Shelf.SlGeneric
import Derived.Shelf.SlicesE.DeleteFunc
import Derived.Ground.SlgfProg

namespace Go.Proofs
open Go.Shelf
def Try.l10_ren : Go.Shelf.Ren := ⟨fun | 10 => 158 | 6 => 161 | n => n, fun | 22 => 127 | 23 => 9 | 25 => 141 | 3 => 3 | 4 => 4 | 0 => 0 | n => n, fun | n => n⟩
theorem Try.l10 : Go.Proofs.SlLaysH.n10 Try.prog Try.l10_ren := {
  mixed := by kernel_rfl
  f6 := ⟨Try.f161.name, by decide, Try.func161.trans (congrArg some (by kernel_rfl))⟩
  f10 := ⟨Try.f158.name, by decide, Try.func158.trans (congrArg some (by kernel_rfl))⟩
  t0 := Try.underlying0
  a0 := Try.isAgg0
  z0 := Try.sizeOf0
  v0 := Try.zeroValue0
  t3 := Try.underlying3
  a3 := Try.isAgg3
  z3 := Try.sizeOf3
  v3 := Try.zeroValue3
  t4 := Try.underlying4
  a4 := Try.isAgg4
  z4 := Try.sizeOf4
  v4 := Try.zeroValue4
  t22 := Try.underlying127
  a22 := Try.isAgg127
  z22 := Try.sizeOf127
  v22 := Try.zeroValue127
  a23 := Try.isAgg9
  z23 := Try.sizeOf9
  t25 := Try.underlying141
  a25 := Try.isAgg141
  z25 := Try.sizeOf141
  v25 := Try.zeroValue141 }
end Go.Proofs
namespace Go.Ex
open Go Go.Proofs Go.RowKit Go.Sort
noncomputable section
set_option maxRecDepth 1000000

def strR (l : List (List UInt8)) : Nat → Nat → FD := fun i _ => .str (l.getD i [])
def strL (n : Nat) (f : Nat → Nat → FD) : List (List UInt8) := (List.range n).map fun i => (f i 0).s
def delL (n : Nat) (f : Nat → Nat → FD) (p : List UInt8) : List (List UInt8) := (strL n f).filter fun s => !bytesEq s p
def delG : Esf := fun hp nx lo svs pc => match svs with
  | [.one (.own b n), .one (.fn 159 [(xb, 0)])] => match hp.get b, hp.get xb with
    | some (.row 9 [.str] n' f), some (.cells 145 3 [_, .ostr p, _]) => chk (Nat.beq n n' && Nat.ble lo b) (.leaf (.one (.own b (delL n f p).length), ((hp.set b (some (.row 9 [.str] (delL n f p).length (strR (delL n f p)))), nx), pc)))
    | _, _ => .fail
  | _ => .fail
def encS (l : List UInt8) : Value := .string ⟨l.toArray⟩
theorem encS_one : OneCell encS := fun _ => rfl

theorem gives159 (p s : List UInt8) (B : Nat) (W : World) (hc : W.cell? ⟨B, 1, none⟩ = some (encS p)) : FnGives Try.prog 159 #[.pointer (some ⟨B, 0, none⟩)] #[encS s] (.bool (bytesEq s p)) W := by
  show Calls Try.prog 159 #[encS s, .pointer (some ⟨B, 0, none⟩)] W _
  unfold encS at hc ⊢
  go_enter Try.func159, Try.ntmps159
  go_wp2
  all_goals (go_ret; exact ⟨by simp_all [bytesEq_eq], 0, rfl⟩)
theorem pred159 (p : List UInt8) (B : Nat) (w : World) (hB : B < w.heap.size) (hc : w.cell? ⟨B, 1, none⟩ = some (encS p)) : PredAt Try.prog 159 #[.pointer (some ⟨B, 0, none⟩)] encS (fun s => bytesEq s p) w :=
  fun W x hb => gives159 p x B W ((hb.cell (p := ⟨B, 1, none⟩) hB).trans hc)
theorem over159 (p : List UInt8) (B blk size : Nat) (w : World) (hB : B < w.heap.size) (hne : B ≠ blk) (hc : w.cell? ⟨B, 1, none⟩ = some (encS p)) : PredOver Try.prog 159 #[.pointer (some ⟨B, 0, none⟩)] encS (fun s => bytesEq s p) blk 0 size w :=
  fun n os dk x _ => gives159 p x B _ (by
    unfold sortWorld
    rw [cell?_grow _ _ _ (by show B < (putRow _ _ _ _ _).heap.size; rw [size_putRow]; exact hB), cell?_putRow_other _ _ blk 0 _ _ (Or.inl hne)]
    exact hc)
theorem heap_putRow_other {α : Type} [Inhabited α] (enc : α → Value) (w : World) (blk off : Nat) (d : Array α) {k : Nat} (hk : k ≠ blk) : (putRow enc w blk off d).heap[k]? = w.heap[k]? := by
  simp only [putRow, mapBlock, Array.getElem?_modify, if_neg (Ne.symm hk)]
theorem heap_putRow_same {α : Type} [Inhabited α] (enc : α → Value) (w : World) (blk off : Nat) (d : Array α) {c : Array Value} {e : TypeId} {fr : Nat × Nat} (h : w.heap[blk]? = some (.cells c e fr)) : (putRow enc w blk off d).heap[blk]? = some (.cells (putCells enc off d c) e fr) := by
  simp only [putRow, mapBlock, Array.getElem?_modify, if_true, h, Option.map_some, onCells]
theorem strL_len (n : Nat) (f : Nat → Nat → FD) : (strL n f).length = n := by simp [strL]
theorem strL_get (n : Nat) (f : Nat → Nat → FD) {i : Nat} (h : i < n) : (strL n f).toArray[i]! = (f i 0).s := by
  rw [getElem!_pos _ i (by simp [strL]; exact h)]
  simp [strL]
theorem enters159 : ∀ args w, (callFunc 159 args).run Try.prog w = .ok (.enter 159 args) w := enters_of Try.func159 (by kernel_rfl) rfl
theorem zero9 : ∀ w, (zeroValue (Try.l10_ren.t 23)).run Try.prog w = .ok (encS []) w := fun w => Try.zeroValue9 w

theorem delG_es : EsOk 158 delG := by
  intro hp nx lo svs pc r hg hpc hlo E base w0 w args hH hB hv
  refine ⟨run_callFunc Try.fok158 _ w, ?_⟩
  unfold delG at hg
  split at hg
  · rename_i b n xb
    split at hg
    · rename_i n' f c0 p c2 hb hxb
      obtain ⟨hck, hg⟩ := at_chk hg
      cases hg
      simp only [Bool.and_eq_true] at hck
      obtain ⟨k1, k2⟩ := hck
      obtain rfl := Nat.eq_of_beq_eq_true k1
      have k2 := Nat.le_of_ble_eq_true k2
      obtain ⟨BB, K, hE, c, q1, q2, q3, q4, _, q6⟩ := hH.cell b _ hb
      obtain ⟨BX, KX, hEX, cx, vs, rest, p1, p2, p3, p4, p5⟩ := hH.cell xb _ hxb
      have hne : BX ≠ BB := hH.inj xb b _ _ BX BB KX K (fun e => by subst e; rw [hb] at hxb; cases hxb) hxb hb hEX hE
      obtain ⟨v1, us, d1, d2, rfl⟩ := denArgs_cons hv
      obtain ⟨v2, us2, d3, d4, rfl⟩ := denArgs_cons d2
      cases d4
      simp only [Sv.den, Sc.den, hE, if_pos q3, Option.some.injEq] at d1
      simp only [Sv.den, Sc.den, denCaps, denAddr, hEX, Option.map_some, Option.some.injEq] at d3
      subst d1; subst d3
      have hget : ∀ i, i < n → c[i]? = some (encS (f i 0).s) ∧ (f i 0) = .str (f i 0).s := fun i hi => by
        obtain ⟨e1, u, e2, e3⟩ := q6 i hi 0 (by simp)
        have e1 : FD.str (f i 0).s = f i 0 := e1
        rw [← e1] at e3
        have e3 : u = .string ⟨(f i 0).s.toArray⟩ := e3
        simp only [List.length_cons, List.length_nil, Nat.mul_one, Nat.add_zero, Nat.zero_add] at e2
        rw [e2, e3]
        exact ⟨rfl, e1.symm⟩
      have hH0 : Holds encS w BB 0 (strL n f).toArray := fun j hj => by
        have hj : j < n := by simpa [strL_len] using hj
        have hf : w.frozen? ⟨BB, 0 + j, none⟩ = false := frozen_of_row w BB _ c _ q1
        refine ⟨?_, hf⟩
        rw [strL_get n f hj]
        unfold World.cell?
        simp only [q1, Nat.zero_add]
        exact (hget j hj).1
      have hBX : BX < w.heap.size := hH.top xb BX KX hEX
      have hcx : w.cell? ⟨BX, 1, none⟩ = some (encS p) := by
        obtain ⟨w1, us1, g1, g2, rfl⟩ := denL_cons p4
        obtain ⟨w2, us2, g3, g4, rfl⟩ := denL_cons g2
        cases g3
        have : cx[1]? = some (encS p) := by
          rw [← Array.getElem?_toList, p5]
          rfl
        unfold World.cell?
        simp only [p1]
        exact this
      have hsz : (strL n f).toArray.size = n := by simp [strL_len]
      have hK : K ≤ 9223372036854775807 := Nat.le_trans q4 (by decide)
      have key := AnyE.slices_DeleteFunc Try.l10 encS encS_one (fun s => bytesEq s p) 159 #[.pointer (some ⟨BX, 0, none⟩)] enters159 [] zero9 BB 0 K (strL n f).toArray w (pred159 p BX w hBX hcx) (over159 p BX BB _ w hBX hne hcx) hH0 (by rw [hsz]; omega) (by rw [hsz]; exact q3)
      have hlen : (delL n f p).length ≤ n := by
        have := List.length_filter_le (fun s => !bytesEq s p) (strL n f)
        rw [strL_len] at this
        exact this
      rw [hsz] at key
      refine Calls.mono key fun e w' he => ?_
      obtain ⟨rfl, q, rfl⟩ := he
      have hH1 : HRel η0 E hp nx lo base (Sort.ahead w q) := hH.below ⟨rfl, rfl, rfl, Nat.le_refl _, fun _ _ => rfl⟩
      have hd : (strL n f).toArray.toList.filter (fun x => !bytesEq x p) = delL n f p := rfl
      rw [hd]
      generalize hD : ((delL n f p) ++ List.replicate (n - (delL n f p).length) ([] : List UInt8)).toArray = D
      have hDs : D.size = n := by rw [← hD]; simp; omega
      have hB1 : Below base w (putRow encS (Sort.ahead w q) BB 0 D) := ⟨rfl, rfl, rfl, by rw [size_putRow]; exact Nat.le_refl _, fun k hk => by
        rw [heap_putRow_other]
        · rfl
        · have := hH.hi b BB K k2 hE
          omega⟩
      refine ⟨_, E, rfl, ?_, Agree.refl _ _, hH1.write hb hE (by rw [size_putRow]) (fun k hk => heap_putRow_other _ _ _ _ _ hk) ?_, hB.trans hB1, hpc, Nat.le_refl _⟩
      · have : (delL n f p).length ≤ K := by omega
        simp only [Sv.den, Sc.den, hE, if_pos this]
      · refine ⟨putCells encS 0 D c, heap_putRow_same _ _ _ _ _ q1, by simp [putCells, q2], by omega, q4, by simp, fun i hi j hj => ?_⟩
        have hj0 : j = 0 := by simpa using hj
        subst hj0
        refine ⟨rfl, encS ((delL n f p).getD i []), ?_, rfl⟩
        simp only [List.length_cons, List.length_nil, Nat.mul_one, Nat.add_zero, Nat.zero_add]
        have hin : i < n := by omega
        simp only [putCells, Array.getElem?_mapIdx, (hget i hin).1, Option.map_some, Nat.zero_le, true_and, Nat.zero_add, hDs, hin, if_true, Nat.sub_zero]
        rw [← hD, getElem!_pos _ i (by simp; omega)]
        simp [List.getElem_append_left hi, List.getD, hi]
    · cases hg
  · cases hg
end
end Go.Ex

