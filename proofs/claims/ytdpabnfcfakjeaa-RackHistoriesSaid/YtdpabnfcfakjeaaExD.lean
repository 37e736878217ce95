/-
  Functions that look at structures in the caller's blocks and hand back new ones: a run of their own with the blocks by other numbers.
-/
import Derived.Test.YtdpabnfcfakjeaaExG

namespace Go.Ex
open Go Go.Proofs Go.RowKit
noncomputable section

structure RdIn where
  ρ : List (Nat × Nat)
  sv : List Sv
  bl : List (Nat × Blk)
  m : Nat
  l : List (Bool × NewP)
  d : NewP
  ck : Bool
def subSvs (ρ : List (Nat × Nat)) (m : Nat) : List Sv → List Sv → Prop
  | [], [] => True
  | a :: l, b :: k => subSv (fun i => i) ρ m a b ∧ subSvs ρ m l k
  | _, _ => False
theorem subSvs_den {ρ : List (Nat × Nat)} {n0 m lo : Nat} (hρ : RhoOk ρ n0 m lo) {η : Env} {E : Emb} : ∀ {l k : List Sv} {vs : List Value}, subSvs ρ m l k → denArgs η E k = some vs → denArgs η (subE (fun i => i) ρ m E) l = some vs
  | [], [], vs, _, h => by cases h; rfl
  | a :: l, b :: k, vs, hs, h => by
    obtain ⟨v, us, e1, e2, rfl⟩ := denArgs_cons h
    simp only [denArgs, subSv_den hρ hs.1 e1, subSvs_den hρ hs.2 e2]
  | [], _ :: _, _, h, _ => h.elim
  | _ :: _, [], _, h, _ => h.elim
def newR (rd : T Blk → List Sv → Option RdIn) : Esf := fun hp nx lo svs pc => match rd hp svs with
  | some i => chk i.ck (bif rhoB i.ρ 0 i.m nx && (Nat.ble i.m nx && (Nat.ble i.m 65000 && ltAll 65535 i.bl)) then newT i.m hp nx lo pc i.l i.d else .fail)
  | none => .fail
def RdOk (C : Cx) (P : Program) (η : Env) (f : FuncId) (fi : FI) (rd : T Blk → List Sv → Option RdIn) : Prop :=
  FI.Ok P f fi ∧ ∀ hp svs i, rd hp svs = some i → subSvs i.ρ i.m i.sv svs ∧ subHpT (fun i => i) i.ρ i.m hp i.bl ∧ (i.ck = true → ((Nat.ble i.sv.length fi.ntmps && Nat.ble fi.ntmps 60000) = true ∧ okL C fi i.l i.d ∧
    RunsK P η fi.ntmps i.m none ⟨setArgs 0 i.sv .nil, T.ofList i.bl, i.m, i.m, []⟩ [.code fi.body] (EndM i.m i.l i.d)))
theorem newR_es {sm : T Smf} {gs : G2} (hs : Tab SmOk sm) (hgs : G2Ok gs) {f : FuncId} {fi : FI} {rd : T Blk → List Sv → Option RdIn} (h : RdOk (mkR sm gs) Try.prog η0 f fi rd) : EsOk f (newR rd) := by
  intro hp nx lo svs pc r hg hpc hlo E base w0 w args hH hB hv
  refine ⟨run_callFunc h.1 _ w, ?_⟩
  unfold newR at hg
  split at hg
  · rename_i i hi
    obtain ⟨c1, hg⟩ := at_chk hg
    cases hck : (rhoB i.ρ 0 i.m nx && (Nat.ble i.m nx && (Nat.ble i.m 65000 && ltAll 65535 i.bl))) with
    | false => rw [hck] at hg; cases hg
    | true =>
    rw [hck] at hg
    simp only [Bool.and_eq_true] at hck
    obtain ⟨c2, c3, c4, c5⟩ := hck
    obtain ⟨k1, k2, k3⟩ := h.2 hp svs i hi
    obtain ⟨k4, k5, k6⟩ := k3 c1
    have hρ := rhoB_ok c2
    have c3 := Nat.le_of_ble_eq_true c3
    have c4 := Nat.le_of_ble_eq_true c4
    have c5 : ∀ p ∈ i.bl, p.1 < 65535 := fun p hp => Nat.le_of_ble_eq_true (List.all_eq_true.1 c5 p hp)
    have hC := mkR_ok hs hgs
    obtain ⟨p, p1, p2, p3⟩ := newT_pick hg k5
    have hH0 : HRel η0 (((subE (fun i => i) i.ρ i.m E.z00).z00).dl0 []) (T.ofList i.bl) i.m i.m w.heap.size w := ((hH.z00.subE hρ c5 c4 k2 (fun k h1 h2 => by omega)).z00).dl0 []
    have hd : denArgs η0 (((subE (fun i => i) i.ρ i.m E.z00).z00).dl0 []) i.sv = some args := denArgs_mono (Emb.le_dl0 _ _) (denArgs_mono (Emb.le_z00 _) (subSvs_den hρ k1 (denArgs_mono E.le_z00 hv)))
    exact postN_run hC h.1 p1 k4 (k6.mono fun x st' hx => by
      cases x with
      | exit i => exact hx.elim
      | normal => exact ⟨.inl rfl, p3 st' hx⟩
      | ret => exact ⟨.inr rfl, p3 st' hx⟩) p2 hpc hH hB hH0 hd rfl
  · cases hg
/-- What is to be shown of such a function. -/
def vcR (sm : T Smf) (gs : G2) (fi : FI) (inv : Nat → AFam) (sv : List Sv) (bl : List (Nat × Blk)) (m : Nat) (l : List (Bool × NewP)) (d : NewP) : Prop :=
  (Nat.ble sv.length fi.ntmps && Nat.ble fi.ntmps 60000) = true ∧
  vcK (mkR sm gs) (drawX (mkR sm gs)) 300 fi.ntmps η0 inv noR 400 true m [.code fi.body] ⟨setArgs 0 sv .nil, T.ofList bl, m, m, []⟩ (EndM m l d)
theorem rdOk_of {sm : T Smf} {gs : G2} (hs : Tab SmOk sm) (hg : G2Ok gs) {f : FuncId} {fi : FI} (hF : FI.Ok Try.prog f fi) {rd : T Blk → List Sv → Option RdIn} (inv : RdIn → Nat → AFam)
    (h : ∀ hp svs i, rd hp svs = some i → subSvs i.ρ i.m i.sv svs ∧ subHpT (fun i => i) i.ρ i.m hp i.bl ∧ (i.ck = true → okL (mkR sm gs) fi i.l i.d ∧ vcR sm gs fi (inv i) i.sv i.bl i.m i.l i.d)) : RdOk (mkR sm gs) Try.prog η0 f fi rd :=
  ⟨hF, fun hp svs i hi => by
    obtain ⟨h1, h2, h3⟩ := h hp svs i hi
    exact ⟨h1, h2, fun hc => ⟨(h3 hc).2.1, (h3 hc).1, vcK_ok (mkR_ok hs hg) (dR hs hg) noR_ok _ true none (fun _ => rfl) _ _ _ _ (h3 hc).2.2⟩⟩⟩
end
end Go.Ex

