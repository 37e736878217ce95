/-
 The executor for the rack's seat: its context.
-/
import Derived.Test.YtdpabnfcfakjeaaExV
import Derived.Test.YtdpabnfcfakjeaaExH
import Derived.Test.YtdpabnfcfakjeaaExCx

namespace Go.Ex
open Go Go.Proofs Go.RowKit
noncomputable section

abbrev Smf := List Sv → PC → aA (Sv × PC)
def noD : Dec := ⟨fun _ _ => none, fun _ _ => false⟩
theorem WB (η : Env) : noD.Ok η := ⟨(fun _ _ _ h => by cases h), (fun _ _ h => by cases h)⟩
abbrev Hsf := T Blk → List Sv → PC → aA (Sv × PC)
abbrev Esf := T Blk → Nat → Nat → List Sv → PC → aA (Sv × ((T Blk × Nat) × PC))
/-- Summaries that make memory; summaries that read the caller's blocks; summaries that write them. -/
structure G2 where
 g : T Smf
 h : T Hsf
 e : T Esf := .nil
def mkR (sm : T Smf) (gs : G2) : Cx := ⟨Try.tt, Try.ft, sm, gs.h, gs.g, gs.e, noD, fun _ _ _ _ => none, fun _ _ _ _ => none, fun _ _ _ _ => none, fun _ _ => none, fun _ _ _ _ _ _ => none⟩
def η0 : Env := ⟨fun _ => 0, fun _ => 0, fun _ _ => false⟩
def fK (f : FuncId) (g : Smf) : Prop := ∀ svs pc r pc', (g svs pc).at_ η0 = some (r, pc') → pc.holds η0 → pc'.holds η0 ∧ ∀ E args w, ZW E w → aB η0 E svs = some args → ∃ v, r.den η0 E = some v ∧ u9 Try.prog f args.toArray w v
def WC (f : FuncId) (g : Smf) : Prop := ∀ svs pc r pc', (g svs pc).at_ η0 = some (r, pc') → pc.holds η0 → pc'.holds η0 ∧ ∀ E args w, ZW E w → aB η0 E svs = some args → UY Try.prog η0 E f args.toArray w r
def qH (f : FuncId) (g : Hsf) : Prop := ∀ hp svs pc r pc', (g hp svs pc).at_ η0 = some (r, pc') → pc.holds η0 → pc'.holds η0 ∧ ∀ E args nx lo base w, aD η0 E hp nx lo base w → aB η0 E svs = some args → ∃ v, r.den η0 E = some v ∧ u9 Try.prog f args.toArray w v
def OP (f : FuncId) (g : Esf) : Prop := ∀ hp nx lo svs pc r, (g hp nx lo svs pc).at_ η0 = some r → pc.holds η0 → lo ≤ nx → ∀ E base w0 w args, aD η0 E hp nx lo base w → Below base w0 w → aB η0 E svs = some args →
 (callFunc f args.toArray).run Try.prog w = .ok (.enter f args.toArray) w ∧ Calls Try.prog f args.toArray w fun e w' => ∃ v E', e = .returned v ∧ r.1.den η0 E' = some v ∧ aH E E' nx ∧ aD η0 E' r.2.1.1 r.2.1.2 lo base w' ∧ Below base w0 w' ∧ r.2.2.holds η0 ∧ nx ≤ r.2.1.2
def KU (t : T Esf) : Prop := ∀ f g, t.get f = some g → OP f g
theorem KU.nil : KU .nil := fun f g h => by simp [T.get_nil] at h
theorem KU.set {t : T Esf} (h : KU t) {f : Nat} {g : Esf} (hf : Nat.blt f 65535 = true) (hq : OP f g) : KU (t.set f (some g)) := by
 intro f' g' hg
 by_cases e : f = f'
 ·subst e
  rw [T.get_set_same _ _ _ (Nat.le_of_ble_eq_true hf)] at hg
  cases hg; exact hq
 ·rw [T.get_set_ne _ _ _ _ e] at hg
  exact h f' g' hg
def Tab (Q : FuncId → Smf → Prop) (t : T Smf) : Prop := ∀ f g, t.get f = some g → Q f g
theorem Tab.nil {Q : FuncId → Smf → Prop} : Tab Q .nil := fun f g h => by simp [T.get_nil] at h
theorem Tab.set {Q : FuncId → Smf → Prop} {t : T Smf} (h : Tab Q t) {f : Nat} {g : Smf} (hf : Nat.blt f 65535 = true) (hq : Q f g) : Tab Q (t.set f (some g)) := by
 intro f' g' hg
 by_cases e : f = f'
 ·subst e
  rw [T.get_set_same _ _ _ (Nat.le_of_ble_eq_true hf)] at hg
  cases hg; exact hq
 ·rw [T.get_set_ne _ _ _ _ e] at hg
  exact h f' g' hg
def SZ (t : T Hsf) : Prop := ∀ f g, t.get f = some g → qH f g
theorem SZ.set {t : T Hsf} (h : SZ t) {f : Nat} {g : Hsf} (hf : Nat.blt f 65535 = true) (hq : qH f g) : SZ (t.set f (some g)) := by
 intro f' g' hg
 by_cases e : f = f'
 ·subst e
  rw [T.get_set_same _ _ _ (Nat.le_of_ble_eq_true hf)] at hg
  cases hg; exact hq
 ·rw [T.get_set_ne _ _ _ _ e] at hg
  exact h f' g' hg
structure eT (gs : G2) : Prop where
 g : Tab WC gs.g
 h : SZ gs.h
 e : KU gs.e
def G2.setG (gs : G2) (f : Nat) (g : Smf) : G2 := ⟨gs.g.set f (some g), gs.h, gs.e⟩
def G2.setH (gs : G2) (f : Nat) (g : Hsf) : G2 := ⟨gs.g, gs.h.set f (some g), gs.e⟩
def G2.setE (gs : G2) (f : Nat) (g : Esf) : G2 := ⟨gs.g, gs.h, gs.e.set f (some g)⟩
theorem eT.setG {gs : G2} (h : eT gs) {f : Nat} {g : Smf} (hf : Nat.blt f 65535 = true) (hq : WC f g) : eT (gs.setG f g) := ⟨h.g.set hf hq, h.h, h.e⟩
theorem eT.setH {gs : G2} (h : eT gs) {f : Nat} {g : Hsf} (hf : Nat.blt f 65535 = true) (hq : qH f g) : eT (gs.setH f g) := ⟨h.g, h.h.set hf hq, h.e⟩
theorem eT.setE {gs : G2} (h : eT gs) {f : Nat} {g : Esf} (hf : Nat.blt f 65535 = true) (hq : OP f g) : eT (gs.setE f g) := ⟨h.g, h.h, h.e.set hf hq⟩
theorem lF {sm : T Smf} {gs : G2} (hs : Tab fK sm) (hg : eT gs) : (mkR sm gs).Ok Try.prog η0 where
 tt := Try.tt_ok
 ft := Try.ft_ok
 sm := hs
 gs := hg.g
 es := hg.e
 hs := hg.h
 D := WB η0
 ih := fun _ _ _ _ _ h => by cases h
 fh := fun _ _ _ _ _ h => by cases h
 fa := fun _ _ _ _ _ h => by cases h
 f2i := fun _ _ _ h => by cases h
 ch := fun _ _ _ _ _ _ _ h => by cases h
 mixed := Try.mixed
theorem dR {sm : T Smf} {gs : G2} (hs : Tab fK sm) (hg : eT gs) : DT Try.prog η0 (xY (mkR sm gs)) := PY (lF hs hg)

def sm0 : T Smf := .nil
def gs0 : G2 := ⟨.nil, .nil, .nil⟩
theorem eW : Tab fK sm0 := Tab.nil
theorem dH : eT gs0 := ⟨Tab.nil, fun f g h => by simp [gs0, T.get_nil] at h, KU.nil⟩
/-- What is to be shown of a function. -/
def vcF (sm : T Smf) (gs : G2) (fi : FI) (sig : List PT) (rt : RT) (inv : Nat → b9) (rinv : Nat → Option H3) (fds r : List FD) : Prop :=
 (Nat.ble (j4 0 sig fds).length fi.ntmps && Nat.ble fi.ntmps 60000) = true ∧
 vcK (mkR sm gs) (xY (mkR sm gs)) 300 fi.ntmps η0 inv rinv 400 true 0 [.code fi.body] (M6 sig fds) (OW (mkR sm gs) fi rt r)
theorem wQ {sm : T Smf} {gs : G2} (hs : Tab fK sm) (hg : eT gs) {f : FuncId} {fi : FI} (hF : FI.Ok Try.prog f fi) {sig : List PT} {rt : RT} {ck : List FD → Bool} {F : List FD → List FD} (inv : List FD → Nat → b9) (rinv : List FD → Nat → Option H3)
  (h : ∀ fds, FitL (sigS sig) fds → ck fds = true → (∀ i F, rinv fds i = some F → ∀ z, (F.R z).Ok Try.prog η0) ∧ vcF sm gs fi sig rt (inv fds) (rinv fds) fds (F fds)) : dA (mkR sm gs) Try.prog η0 f fi sig rt ck F :=
 ⟨hF, fun fds hf hc => ⟨(h fds hf hc).2.1, zF (lF hs hg) (dR hs hg) (h fds hf hc).1 _ true none (fun _ => rfl) _ _ _ _ (h fds hf hc).2.2⟩⟩
def noR : Nat → Option H3 := fun _ => none
theorem KV : ∀ i F, noR i = some F → ∀ z, (F.R z).Ok Try.prog η0 := fun _ _ h => by cases h
theorem aM {sm : T Smf} {gs : G2} (hs : Tab fK sm) (hg : eT gs) {f : FuncId} {fi : FI} (hF : FI.Ok Try.prog f fi) {sig : List PT} {rt : RT} {ck : List FD → Bool} {F : List FD → List FD} (inv : List FD → Nat → b9)
  (h : ∀ fds, FitL (sigS sig) fds → ck fds = true → vcF sm gs fi sig rt (inv fds) noR fds (F fds)) : dA (mkR sm gs) Try.prog η0 f fi sig rt ck F :=
 wQ hs hg hF inv (fun _ => noR) fun fds hf hc => ⟨KV, h fds hf hc⟩
theorem aW {sm : T Smf} {gs : G2} (hs : Tab fK sm) (hg : eT gs) {f : FuncId} {fi : FI} {sig : List PT} {rt : RT} {ck : List FD → Bool} {F : List FD → List FD} (h : dA (mkR sm gs) Try.prog η0 f fi sig rt ck F) (hrt : rt.scal = true) : fK f (gFd sig rt ck F) :=
 WJ (lF hs hg) h hrt
theorem wR {sm : T Smf} {gs : G2} (hs : Tab fK sm) (hg : eT gs) {f : FuncId} {fi : FI} {sig : List PT} {rt : RT} {ck : List FD → Bool} {F : List FD → List FD} (h : dA (mkR sm gs) Try.prog η0 f fi sig rt ck F) : WC f (gFd sig rt ck F) :=
 WI (lF hs hg) h

/-- What is to be shown of a function whose last argument is a closure. -/
def vcH (sm : T Smf) (gs : G2) (fi : FI) (sig : List PT) (clo : Clo) (rt : RT) (inv : Nat → b9) (fds bds r : List FD) : Prop :=
 (Nat.ble (j4 0 sig fds ++ [Sv.one (.fn clo.1 (mK 1 clo.2))]).length fi.ntmps && Nat.ble fi.ntmps 60000) = true ∧
 vcK (mkR sm gs) (xY (mkR sm gs)) 300 fi.ntmps η0 inv noR 400 true 0 [.code fi.body] (QI sig clo fds bds) (OW (mkR sm gs) fi rt r)
theorem kN {sm : T Smf} {gs : G2} (hs : Tab fK sm) (hg : eT gs) {f : FuncId} {fi : FI} (hF : FI.Ok Try.prog f fi) {sig : List PT} {clo : Clo} {rt : RT} {ck : List FD → List FD → Bool} {F : List FD → List FD → List FD} (inv : List FD → List FD → Nat → b9) (hrt : rt.scal = true) (hcl : Nat.ble clo.2.length 100 = true)
  (h : ∀ fds bds, FitL (sigS sig) fds → FitL (SX clo.2) bds → ck fds bds = true → vcH sm gs fi sig clo rt (inv fds bds) fds bds (F fds bds)) : qH f (mM sig clo rt ck F) :=
 SY (lF hs hg) ⟨hF, fun fds bds hf hb hc => ⟨(h fds bds hf hb hc).1, zF (lF hs hg) (dR hs hg) KV _ true none (fun _ => rfl) _ _ _ _ (h fds bds hf hb hc).2⟩⟩ hrt hcl

/-- One summary for several closures. -/
def HI (c : FuncId) (g1 g2 : Hsf) : Hsf := fun hp svs pc => match HG svs with
 | some (_, .one (.fn f _)) => bif Nat.beq f c then g1 hp svs pc else g2 hp svs pc
 | _ => .fail
theorem o5 {f c : FuncId} {g1 g2 : Hsf} (h1 : qH f g1) (h2 : qH f g2) : qH f (HI c g1 g2) := by
 intro hp svs pc r pc' h
 unfold HI at h
 split at h
 ·rename_i fn _ _
  cases hb : Nat.beq fn c with
  | true => rw [hb] at h; exact h1 hp svs pc r pc' h
  | false => rw [hb] at h; exact h2 hp svs pc r pc' h
 ·cases h
/-- The first place at which p holds. -/
def bQ (p : Nat → Bool) : Nat → Nat → Int
 | 0, _ => -1
 | n + 1, x => bif p x then (x : Int) else bQ p n (x + 1)
def eO (p : Nat → Bool) : Nat → Nat → Bool
 | 0, _ => false
 | n + 1, x => p x || eO p n (x + 1)
theorem lN (p : Nat → Bool) : ∀ n x, decide (bQ p n x < 0) = !eO p n x
 | 0, x => by simp [bQ, eO]
 | n + 1, x => by
  have ih := lN p n (x + 1)
  rcases Bool.eq_false_or_eq_true (p x) with h | h
  ·simp only [bQ, eO, h, cond_true, Bool.true_or, Bool.not_true, decide_eq_false_iff_not]
   omega
  ·simp only [bQ, eO, h, cond_false, Bool.false_or]
   exact ih
theorem mO {p : Nat → Bool} : ∀ {n x : Nat}, eO p n x = false → ∀ i, x ≤ i → i < x + n → p i = false
 | 0, x, _, i, h1, h2 => by omega
 | n + 1, x, h, i, h1, h2 => by
  simp only [eO, Bool.or_eq_false_iff] at h
  by_cases e : i = x
  ·subst e; exact h.1
  ·exact mO h.2 i (by omega) (by omega)
theorem CM {p : Nat → Bool} : ∀ {n x : Nat}, eO p n x = true → ∃ i, x ≤ i ∧ i < x + n ∧ p i = true
 | 0, x, h => by simp [eO] at h
 | n + 1, x, h => by
  simp only [eO, Bool.or_eq_true] at h
  rcases h with h | h
  ·exact ⟨x, by omega, by omega, h⟩
  ·obtain ⟨i, h1, h2, h3⟩ := CM h
   exact ⟨i, by omega, by omega, h3⟩

end
end Go.Ex

