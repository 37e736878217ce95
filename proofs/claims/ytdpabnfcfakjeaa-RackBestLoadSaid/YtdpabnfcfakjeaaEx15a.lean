/-
 The executor of code; that what it says of a call is so.
-/
import Derived.Test.YtdpabnfcfakjeaaEx14
import Derived.LoopNIn
/-
 What the executor of code says is so.
-/

namespace Go.Ex
open Go Go.RowKit
noncomputable section

inductive Xt where
 | normal
 | exit (id : Nat)
 | ret
def Xt.den : Xt → Exit
 | .normal => .normal
 | .exit id => .exit id
 | .ret => .ret

def dP : Nat → List Sv → T Sv → T Sv
 | _, [], t => t
 | i, s :: l, t => dP (i + 1) l (t.set i (some s))

/-- How a region that draws its order is carried out. -/
abbrev jU := (FI → List Sv → St → aA (Sv × St)) → Nat → List Oper → St → aA St

def BQ (C : Cx) (dr : jU) : Nat → Nat → Code → St → aA (Xt × St)
 | 0, _, _, _ => .fail
 | n + 1, nt, c, st =>
  let call : FI → List Sv → St → aA (Sv × St) := fun fi args st =>
   bif Nat.ble args.length fi.ntmps && Nat.ble fi.ntmps 60000 then
    (BQ C dr n fi.ntmps fi.body { st with tm := dP 0 args .nil }).bind fun r => match r.1 with
     | .exit _ => .fail
     | _ => match rT C r.2.hp r.2.tm fi.res with
      | some s => .leaf (s, r.2)
      | none => .fail
   else .fail
  match c with
  | .skip => .leaf (.normal, st)
  | .ret => .leaf (.ret, st)
  | .exit id => .leaf (.exit id, st)
  | .seq a b => (BQ C dr n nt a st).bind fun r => match r.1 with
   | .normal => BQ C dr n nt b r.2
   | _ => .leaf r
  | .cond c a b => match evX st.tm c with
   | some (.one (.bool bx)) => dE C.D st.pc bx fun t pc => BQ C dr n nt (bif t then a else b) { st with pc := pc, tm := UI c t st.tm }
   | _ => .fail
  | .block id c => (BQ C dr n nt c st).bind fun r => match r.1 with
   | .exit i => bif Nat.beq i id then .leaf (.normal, r.2) else .leaf r
   | _ => .leaf r
  | .loop c => (BQ C dr n nt c st).bind fun r => match r.1 with
   | .normal => BQ C dr n nt (.loop c) r.2
   | _ => .leaf r
  | .region _ ops false => (tH C call nt ops.toList ops.toList st).bind fun st => .leaf (.normal, st)
  | .region _ ops true => (dr call nt ops.toList st).bind fun st => .leaf (.normal, st)
  | _ => .fail

/-- The executor of calls of a given depth. -/
def xR (C : Cx) (dr : jU) (n : Nat) : FI → List Sv → St → aA (Sv × St) := fun fi args st =>
 bif Nat.ble args.length fi.ntmps && Nat.ble fi.ntmps 60000 then
  (BQ C dr n fi.ntmps fi.body { st with tm := dP 0 args .nil }).bind fun r => match r.1 with
   | .exit _ => .fail
   | _ => match rT C r.2.hp r.2.tm fi.res with
    | some s => .leaf (s, r.2)
    | none => .fail
 else .fail

end
end Go.Ex


namespace Go.Ex
open Go Go.RowKit
noncomputable section

/-- A region that draws its order, carried out by 'dr'. -/
def DT (P : Program) (η : Env) (dr : jU) : Prop :=
 ∀ ih, eR P η ih → ∀ (nt : Nat) (ops : Array Oper) (st st' : St), (dr ih nt ops.toList st).at_ η = some st' →
  ∀ E base w0 a w, cR η E nt base w0 st a w → ∀ (Q : Exit → Act → World → Prop) (id : Nat),
   (∀ E' a' w', aH E E' st.nx → st.nx ≤ st'.nx → st'.lo = st.lo → cR η E' nt base w0 st' a' w' → Q .normal a' w') → ∀ ro m, (Code.region id ops true).wpIn (FW ro) m P Q a w

/-- What is asked of the place where a code comes to. -/
def ML (η : Env) (nt base : Nat) (w0 : World) (E : Emb) (st : St) (r : Xt × St) (Q : Exit → Act → World → Prop) : Prop :=
 ∀ E' a' w', aH E E' st.nx → st.nx ≤ r.2.nx → r.2.lo = st.lo → cR η E' nt base w0 r.2 a' w' → Q r.1.den a' w'

theorem ML.trans {η : Env} {nt base : Nat} {w0 : World} {E E' : Emb} {st st' : St} {r : Xt × St} {Q : Exit → Act → World → Prop} (h : ML η nt base w0 E st r Q) (hA : aH E E' st.nx) (hn : st.nx ≤ st'.nx) (hlo : st'.lo = st.lo) :
  ML η nt base w0 E' st' r Q := fun E'' a' w' hA' hn' hlo' hS => h E'' a' w' (hA.trans hA' hn) (Nat.le_trans hn hn') (hlo'.trans hlo) hS

theorem kF {η : Env} {E : Emb} {a : Act} : ∀ {l : List Sv} {vs : List Value} {i : Nat} {t : T Sv}, aB η E l = some vs → gO η E t a → i + l.length < 65535 → (∀ j, j < l.length → a.tmps[i + j]? = vs[j]?) → gO η E (dP i l t) a
 | [], vs, i, t, _, h, _, _ => h
 | s :: l, vs, i, t, hv, h, hi, ha => by
  obtain ⟨v, us, h1, h2, rfl⟩ := aG hv
  show gO η E (dP (i + 1) l (t.set i (some s))) a
  refine kF (l := l) h2 ?_ (by simp at hi; omega) (fun j hj => by have := ha (j + 1) (by simp; omega); simpa [Nat.add_assoc, Nat.add_comm 1 j] using this)
  intro x sv hx
  by_cases hix : i = x
  ·subst hix
   rw [T.get_set_same _ _ _ (by simp at hi; omega)] at hx
   cases hx
   exact ⟨v, by simpa using ha 0 (by simp), h1⟩
  ·rw [T.get_set_ne _ _ _ _ hix] at hx
   exact h x sv hx

theorem gG {η : Env} {E : Emb} : ∀ {l : List Sv} {vs}, aB η E l = some vs → vs.length = l.length
 | [], vs, h => by cases h; rfl
 | s :: l, vs, h => by
  obtain ⟨v, us, h1, h2, rfl⟩ := aG h
  simp [gG h2]

/-- What is shown of all codes for a given fuel. -/
def PL (C : Cx) (dr : jU) (P : Program) (η : Env) (n : Nat) : Prop :=
 ∀ nt c st r, (BQ C dr n nt c st).at_ η = some r → ∀ E base w0 a w, cR η E nt base w0 st a w → ∀ Q, ML η nt base w0 E st r Q →
  ∀ ro m, c.wpIn (FW ro) m P Q a w ∧ ∀ c', c = .loop c' → Code.roundsIn (FW ro) m P c' Q n a w

theorem xS {C : Cx} {dr : jU} {P : Program} {η : Env} (hC : C.Ok P η) {n : Nat} (hX : PL C dr P η n) : eR P η (xR C dr n) := by
 intro fi args st r h f hF hpc hlo E base w0 w vs hH hB hv
 unfold xR at h
 cases hb : (Nat.ble args.length fi.ntmps && Nat.ble fi.ntmps 60000) with
 | false => rw [hb] at h; cases h
 | true =>
  rw [hb] at h
  simp only [Bool.and_eq_true] at hb
  have hb1 := Nat.le_of_ble_eq_true hb.1
  have hb2 := Nat.le_of_ble_eq_true hb.2
  obtain ⟨r1, h1, h2⟩ := aA.at_bind h
  obtain ⟨fn, f1, f2, f3, f4, _⟩ := hF.fn
  have hlen := gG hv
  refine (callsIn_wide (n := 0)).1 (callsIn_of_wp f1 f2 trivial ?_)
  have hH0 := hH.dl0 []
  have hfr : gO η (E.dl0 []) (dP 0 args .nil) { tmps := vs.toArray ++ Array.replicate (fn.ntmps - vs.toArray.size) undef, defers := [] } := by
   refine kF (dN (E.le_dl0 []) hv) (fun t sv ht => by simp [T.get_nil] at ht) (by omega) (fun j hj => ?_)
   have : j < vs.length := by omega
   simp [Array.getElem?_append, this]
  have hS : cR η (E.dl0 []) fi.ntmps base w0 { st with tm := dP 0 args .nil } { tmps := vs.toArray ++ Array.replicate (fn.ntmps - vs.toArray.size) undef, defers := [] } w :=
   ⟨hfr, by simp [f3, hlen]; omega, hb2, rfl, hH0, hB, hlo, hpc⟩
  refine (hX _ _ _ _ h1 (E.dl0 []) base w0 _ w hS _ ?_ none 0).1
  intro E' a' w' hA hn hlo' hS'
  obtain ⟨xt, st'⟩ := r1
  have fin : ∀ s, rT C st'.hp st'.tm fi.res = some s → r = (s, st') → a'.defers = [] ∧ ∃ v, (results fn a'.tmps).run P w' = .ok v w' ∧ ∃ v' E', Ending.returned v = .returned v' ∧ r.1.den η E' = some v' ∧ aH E E' st.nx ∧ aD η E' r.2.hp r.2.nx st.lo base w' ∧ Below base w0 w' ∧ r.2.pc.holds η ∧ st.nx ≤ r.2.nx := by
   rintro s hs rfl
   obtain ⟨v, e1, e2⟩ := xJ hC hS'.hr hS'.fr (fn := fn) (by rw [f4]; exact hs)
   have hlo'' : st'.lo = st.lo := hlo'
   exact ⟨hS'.df.trans (congrArg Fix.l hA.dl), v, e2, v, E'.dl0 E.dl.l, rfl, Sv.den_mono (E'.le_dl0 _) e1, ⟨hA.b, hA.r, hA.z, hA.d, (by show Fix.mk E.dl.l E'.dl.z0 = E.dl; rw [hA.dl]; rfl), hA.m⟩, by rw [← hlo'']; exact hS'.hr.dl0 _, hS'.bl, hS'.pc, hn⟩
  cases xt with
  | exit i => cases h2
  | normal =>
   simp only at h2
   split at h2
   ·rename_i s hs; cases h2; exact fin s hs rfl
   ·cases h2
  | ret =>
   simp only at h2
   split at h2
   ·rename_i s hs; cases h2; exact fin s hs rfl
   ·cases h2

theorem DU {C : Cx} {dr : jU} {P : Program} {η : Env} (hC : C.Ok P η) (hD : DT P η dr) : ∀ n, PL C dr P η n
 | 0 => fun nt c st r h => by cases h
 | n + 1 => by
  have ih := DU hC hD n
  have hcall : eR P η (xR C dr n) := xS hC ih
  intro nt c st r h E base w0 a w hS Q hQ ro m
  unfold BQ at h
  split at h
  ·cases h; exact ⟨wpIn_skip (hQ E a w (aH.refl _ _) (Nat.le_refl _) rfl hS), fun _ e => by cases e⟩
  ·cases h; exact ⟨wpIn_ret (hQ E a w (aH.refl _ _) (Nat.le_refl _) rfl hS), fun _ e => by cases e⟩
  ·cases h; exact ⟨wpIn_exit (hQ E a w (aH.refl _ _) (Nat.le_refl _) rfl hS), fun _ e => by cases e⟩
  ·rename_i x y
   obtain ⟨⟨xt, st1⟩, h1, h2⟩ := aA.at_bind h
   refine ⟨wpIn_seq (ih _ _ _ _ h1 E base w0 a w hS _ ?_ ro m).1, fun _ e => by cases e⟩
   intro E' a' w' hA hn hlo hS'
   cases xt with
   | normal => exact (ih _ _ _ _ h2 E' base w0 a' w' hS' Q (hQ.trans hA hn hlo) ro m).1
   | exit i => cases h2; exact hQ E' a' w' hA hn hlo hS'
   | ret => cases h2; exact hQ E' a' w' hA hn hlo hS'
  ·rename_i c x y
   refine ⟨?_, fun _ e => by cases e⟩
   split at h
   ·rename_i bx hb
    obtain ⟨pc1, hp1, h1⟩ := bD hC.D hS.pc h
    have ec := hS.fr.orel c _ hb
    simp only [Sv.den, Sc.den, Option.some.injEq] at ec
    refine wpIn_cond ec.symm ?_
    have := (ih _ _ _ _ h1 E base w0 a w ((hS.of_pc hp1).of_litO hb) Q hQ ro m).1
    cases hbx : bx.den η <;> simpa [hbx] using this
   ·cases h
  ·rename_i id c
   refine ⟨?_, fun _ e => by cases e⟩
   obtain ⟨⟨xt, st1⟩, h1, h2⟩ := aA.at_bind h
   refine wpIn_block (ih _ _ _ _ h1 E base w0 a w hS _ ?_ ro m).1
   intro E' a' w' hA hn hlo hS'
   cases xt with
   | normal => cases h2; exact hQ E' a' w' hA hn hlo hS'
   | ret => cases h2; exact hQ E' a' w' hA hn hlo hS'
   | exit i =>
    simp only [Xt.den, Exit.inBlock]
    simp only at h2
    cases hb : Nat.beq i id with
    | true =>
     rw [hb] at h2; cases h2
     have := Nat.eq_of_beq_eq_true hb
     simp only [this, if_true]
     exact hQ E' a' w' hA hn hlo hS'
    | false =>
     rw [hb] at h2; cases h2
     have : ¬ i = id := fun e => by subst e; simp at hb
     simp only [this, if_false]
     exact hQ E' a' w' hA hn hlo hS'
  ·rename_i c
   obtain ⟨⟨xt, st1⟩, h1, h2⟩ := aA.at_bind h
   have hr : Code.roundsIn (FW ro) m P c Q (n + 1) a w := by
    rw [roundsIn_succ]
    refine (ih _ _ _ _ h1 E base w0 a w hS _ ?_ ro m).1
    intro E' a' w' hA hn hlo hS'
    cases xt with
    | normal => exact (ih _ _ _ _ h2 E' base w0 a' w' hS' Q (hQ.trans hA hn hlo) ro m).2 c rfl
    | exit i => cases h2; exact hQ E' a' w' hA hn hlo hS'
    | ret => cases h2; exact hQ E' a' w' hA hn hlo hS'
   exact ⟨wpIn_loop_rounds _ hr, fun c' e => by cases e; exact hr⟩
  ·rename_i ops
   refine ⟨?_, fun _ e => by cases e⟩
   obtain ⟨st1, h1, h2⟩ := aA.at_bind h
   cases h2
   refine wpIn_region ?_
   have := pZ (ro := ro) (m := m) hC hcall Q ops.toList 0 st st1 (fun j => by simp) h1 E base w0 a w hS (fun E' a' w' hA hn hlo hS' => hQ E' a' w' hA hn hlo hS')
   rw [List.range_eq_range']
   simpa using this
  ·rename_i ops
   refine ⟨?_, fun _ e => by cases e⟩
   obtain ⟨st1, h1, h2⟩ := aA.at_bind h
   cases h2
   exact hD _ hcall nt ops st st1 h1 E base w0 a w hS Q _ (fun E' a' w' hA hn hlo hS' => hQ E' a' w' hA hn hlo hS') ro m
  ·cases h

end
end Go.Ex

