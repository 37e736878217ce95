/-
 What is to be shown of a function with loops, made by the executor itself.
-/
import Derived.Test.YtdpabnfcfakjeaaExW
import Derived.Test.YtdpabnfcfakjeaaExF

namespace Go.Ex
open Go Go.RowKit
noncomputable section

/-! ## Invariants -/
structure Alt where
 ι : Type
 G : ι → Prop
 μ : ι → Nat
 tl : ι → List (Nat × Sv)
 bl : ι → List (Nat × Blk)
 nx : Nat
def Alt.st (A : Alt) (lo : Nat) (x : A.ι) : St := ⟨T.ofList (A.tl x), T.ofList (A.bl x), A.nx, lo, []⟩
/-- A state is as the alternative says at x; 'rm': the roots' other numbers. -/
def Alt.fits0 (A : Alt) (rm : Nat → Nat) (n0 : Nat) (st : St) (x : A.ι) : Prop :=
 ((OZ (CY n0 st (A.tl x) (A.bl x)) n0 A.nx st.lo && (CX 65535 (A.tl x) && CX 65535 (A.bl x) && Nat.ble n0 A.nx && Nat.ble A.nx 65000 && Nat.ble st.lo A.nx)) = true ∧ EW rm (CY n0 st (A.tl x) (A.bl x)) A.nx st.tm (A.tl x)) ∧ fI rm (CY n0 st (A.tl x) (A.bl x)) A.nx st.hp (A.bl x)
def Alt.fits (A : Alt) (n0 : Nat) (st : St) (x : A.ι) : Prop :=
 match T1 (A.tl x) st.tm || YJ (CY n0 st (A.tl x) (A.bl x)) st.hp (A.bl x) with
 | false => A.fits0 id n0 st x
 | true => (V9 (A.tl x) st ∧ YK n0 st.lo (HD (A.tl x) (EI (A.tl x) st).tm ++ HE (CY n0 (EI (A.tl x) st) (A.tl x) (A.bl x)) (EI (A.tl x) st).hp (A.bl x)) = true) ∧ A.fits0 (QF (HD (A.tl x) (EI (A.tl x) st).tm ++ HE (CY n0 (EI (A.tl x) st) (A.tl x) (A.bl x)) (EI (A.tl x) st).hp (A.bl x))) n0 (EI (A.tl x) st) x
theorem Alt.fits0_sub {A : Alt} {rm : Nat → Nat} {η : Env} {n0 : Nat} {st : St} {x : A.ι} (h : A.fits0 rm n0 st x) (hr1 : ∀ k, k < n0 → rm k = k) (hr2 : ∀ k, st.lo ≤ k → st.lo ≤ rm k) : Sub η n0 (A.st st.lo x) st := by
 obtain ⟨⟨h1, h2⟩, h3⟩ := h
 simp only [Bool.and_eq_true] at h1
 exact Sub.ofT _ _ _ h1.1 (by simp only [Bool.and_eq_true]; exact h1.2) h2 h3 hr1 (fun k hk _ => hr2 k hk)
theorem Alt.fits_sub {A : Alt} {η : Env} {n0 : Nat} {st : St} {x : A.ι} (h : A.fits n0 st x) : Sub η n0 (A.st st.lo x) st := by
 unfold Alt.fits at h
 split at h
 ·exact Alt.fits0_sub h (fun _ _ => rfl) (fun _ h => h)
 ·obtain ⟨⟨h1, h2⟩, h3⟩ := h
  have hs := HC (η := η) (n0 := n0) h1
  have hlo := hs.lo
  obtain ⟨r1, r2⟩ := QG h2
  have := Alt.fits0_sub (η := η) h3 r1 (by rw [hlo]; exact r2)
  rw [hlo] at this
  exact this.trans hs
/-- A state is as one of the alternatives says. -/
def EX (n0 : Nat) (st : St) (m : Option Nat) : List Alt → Prop
 | [] => False
 | [A] => ∃ x, (A.G x ∧ (match m with | some k => A.μ x < k | none => True)) ∧ A.fits n0 st x
 | A :: l => (∃ x, (A.G x ∧ (match m with | some k => A.μ x < k | none => True)) ∧ A.fits n0 st x) ∨ EX n0 st m l
theorem qO {n0 : Nat} {st : St} {m : Option Nat} : ∀ {l : List Alt}, EX n0 st m l → ∃ A ∈ l, ∃ x : A.ι, (A.G x ∧ (match m with | some k => A.μ x < k | none => True)) ∧ A.fits n0 st x
 | [], h => h.elim
 | [A], h => ⟨A, List.mem_cons_self .., h⟩
 | A :: B :: l, h => by
  rcases h with h | h
  ·exact ⟨A, List.mem_cons_self .., h⟩
  ·obtain ⟨C, hC, h⟩ := qO (l := B :: l) h
   exact ⟨C, List.mem_cons_of_mem _ hC, h⟩
def WK (p : Alt → Prop) : List Alt → Prop
 | [] => True
 | [A] => p A
 | A :: l => p A ∧ WK p l
theorem H2 {p : Alt → Prop} : ∀ {l : List Alt}, WK p l → ∀ A ∈ l, p A
 | [], _, _, h => by cases h
 | [A], h, B, hB => by
  cases hB with
  | head => exact h
  | tail _ hB => cases hB
 | A :: C :: l, h, B, hB => by
  cases hB with
  | head => exact h.1
  | tail _ hB => exact H2 (l := C :: l) h.2 B hB

def aA.sat {α : Type} (η : Env) (Q : α → Prop) : aA α → Prop
 | .leaf a => Q a
 | .fork (.tm b) t f => (b = true → t.sat η Q) ∧ (b = false → f.sat η Q)
 | .fork a t f => (a.den η = true → t.sat η Q) ∧ (a.den η = false → f.sat η Q)
 | .fail => False
theorem aA.sat_at {α : Type} {η : Env} {Q : α → Prop} : ∀ {t : aA α}, t.sat η Q → ∃ a, t.at_ η = some a ∧ Q a
 | .leaf a, h => ⟨a, rfl, h⟩
 | .fork a t f, h => by
  have h : (a.den η = true → t.sat η Q) ∧ (a.den η = false → f.sat η Q) := by
   cases a <;> exact h
  cases ha : a.den η with
  | true =>
   obtain ⟨x, h1, h2⟩ := aA.sat_at (h.1 ha)
   exact ⟨x, by simp only [aA.at_, ha, if_true]; exact h1, h2⟩
  | false =>
   obtain ⟨x, h1, h2⟩ := aA.sat_at (h.2 ha)
   exact ⟨x, by simp only [aA.at_, ha]; exact h1, h2⟩
 | .fail, h => h.elim

/-- The number of a code: that of its first region or block. -/
def pQ : Code → Nat
 | .region id _ _ => id
 | .seq a _ => pQ a
 | .cond _ a _ => pQ a
 | .block id _ => id
 | .loop c => pQ c
 | _ => 0
def brc (η : Env) (b : Bx) (pc : PC) (k : Bool → PC → Prop) : Prop :=
 match b with
 | .lit x => k x pc
 | .at_ false (.tm b) => (b = true → k true pc) ∧ (b = false → k false pc)
 | .at_ true (.tm b) => (b = false → k true pc) ∧ (b = true → k false pc)
 | b => (b.den η = true → k true pc) ∧ (b.den η = false → k false pc)
theorem TF {η : Env} {b : Bx} {pc : PC} {k : Bool → PC → Prop} (h : brc η b pc k) : k (b.den η) pc := by
 have gen : ∀ {b : Bx} , ((b.den η = true → k true pc) ∧ (b.den η = false → k false pc)) → k (b.den η) pc := by
  intro b h
  cases hb : b.den η with
  | true => exact h.1 hb
  | false => exact h.2 hb
 unfold brc at h
 split at h
 ·exact h
 ·refine gen ?_
  simpa [Bx.den, fE.den] using h
 ·rename_i b
  refine gen ?_
  cases b <;> simpa [Bx.den, fE.den] using h
 ·exact gen h

/-- A range over a function of which nothing is known stops the run. -/
inductive O0 (k : Nat) (st : St) : Prop

def YT {α : Type} : Option α → Prop
 | some _ => True
 | none => False
theorem EY {α : Type} {o : Option α} (h : YT o) : ∃ a, o = some a := by
 cases o with
 | none => exact h.elim
 | some a => exact ⟨a, rfl⟩
/-- Ranges over a function, by a parameter. -/
structure H3 where
 κ : Type
 R : κ → sK
/-- Invariants, by a parameter that is chosen where the loop begins. -/
structure b9 where
 κ : Type
 A : κ → List Alt
def aZ (f : Nat → List Alt) : Nat → b9 := fun i => ⟨Nat, fun _ => f i⟩
variable {P : Program}
/-- What is to be shown, so that all that is left to do leads to Ψ. -/
def vcK (C : Cx) (dr : jU) (fc nt : Nat) (η : Env) (inv : Nat → b9) (rinv : Nat → Option H3) : Nat → Bool → Nat → List It → St → (Xt → St → Prop) → Prop
 | 0, _, _, _, _, _ => False
 | _ + 1, _, _, [], st, Ψ => Ψ .normal st
 | n + 1, top, n0, .blk _ :: k, st, Ψ => vcK C dr fc nt η inv rinv n top n0 k st Ψ
 | n + 1, top, n0, .code c :: k, st, Ψ => match c with
  | .skip => vcK C dr fc nt η inv rinv n top n0 k st Ψ
  | .ret => Ψ .ret st
  | .exit id => match sI id k with
   | some k' => vcK C dr fc nt η inv rinv n top n0 k' st Ψ
   | none => Ψ (.exit id) st
  | .seq a b => vcK C dr fc nt η inv rinv n top n0 (.code a :: .code b :: k) st Ψ
  | .cond c a b => match evX st.tm c with
   | some (.one (.bool bx)) => brc η bx st.pc fun t pc => vcK C dr fc nt η inv rinv n top n0 (.code (bif t then a else b) :: k) { st with pc := pc, tm := UI c t st.tm } Ψ
   | _ => False
  | .block id c => vcK C dr fc nt η inv rinv n top n0 (.code c :: .blk id :: k) st Ψ
  | .loop c => ∃ z : (inv (pQ c)).κ, EX n0 st none ((inv (pQ c)).A z) ∧ WK (fun A => ∀ x, A.G x → vcK C dr fc nt η inv rinv n top n0 [.code c] (A.st st.lo x) fun xt st' => match xt with
    | .normal => EX n0 st' (some (A.μ x)) ((inv (pQ c)).A z)
    | .ret => Ψ .ret st'
    | .exit id => match sI id k with
     | some k' => vcK C dr fc nt η inv rinv n top n0 k' st' Ψ
     | none => Ψ (.exit id) st') ((inv (pQ c)).A z)
  | .region _ ops false => (tH C (xR C dr fc) nt ops.toList ops.toList st).sat η fun st => vcK C dr fc nt η inv rinv n top n0 k st Ψ
  | .region _ ops true => (dr (xR C dr fc) nt ops.toList st).sat η fun st => vcK C dr fc nt η inv rinv n top n0 k st Ψ
  | .rangeFunc g ps assign body => match top, rinv (pQ body + 1000 * st.nx), evX st.tm g with
   | true, some F, some (.one (.fn f caps)) => ∃ z : F.κ,
    (((((Nat.beq f (F.R z).gf && (Nat.beq ps.size (F.R z).np && (ps.toList.all (fun p => Nat.blt p nt) && (Nat.ble st.lo (F.R z).nx && (Nat.ble n0 (F.R z).nx && caps.all (fun a => Nat.blt a.1 st.nx)))))) = true) ∧ (∀ pre, EZ (T.ofList ((F.R z).bl pre)) caps (F.R z).nums)) ∧ ((F.R z).G [] ∧ (F.R z).fits st.nx st.lo st.hp [])) ∧
     (∀ x, YT (mR nt assign (H4 ps.toList ((F.R z).args x) st.tm))) ∧
     (∀ pre x, (F.R z).G pre → pre.length < (F.R z).xs.length → match mR nt assign (H4 ps.toList ((F.R z).args x) st.tm) with
      | some tm => vcK C dr fc nt η inv rinv n false st.nx [.code body] ((F.R z).st tm st.lo pre) (zH (F.R z) st.nx st.lo (pre ++ [x]))
      | none => False)) ∧
    (((F.R z).G (F.R z).xs → vcK C dr fc nt η inv rinv n top n0 k ((F.R z).st st.tm st.lo (F.R z).xs) Ψ) ∧
     (∀ pre, pre <+: (F.R z).xs → (F.R z).Gx pre → vcK C dr fc nt η inv rinv n top n0 (.code (.exit (F.R z).xid) :: k) ((F.R z).st st.tm st.lo pre) Ψ))
   | _, _, _ => O0 (pQ body) st
  | _ => False

theorem zF {C : Cx} {η : Env} {dr : jU} (hC : C.Ok P η) (hD : DT P η dr) {fc nt : Nat} {inv : Nat → b9} {rinv : Nat → Option H3} (hrin : ∀ i F, rinv i = some F → ∀ z, (F.R z).Ok P η) : ∀ (n : Nat) (top : Bool) (ro : Option Nat), (top = true → ro = none) → ∀ (n0 : Nat) (k : List It) (st : St) (Ψ : Xt → St → Prop), vcK C dr fc nt η inv rinv n top n0 k st Ψ → dL P η nt n0 ro st k Ψ
 | 0, _, _, _, _, _, _, _, h => h.elim
 | n + 1, top, ro, htop, n0, [], st, Ψ, h => by
  intro m E base w0 a w Q hm hS hn hQ
  rw [sJ]
  exact hQ .normal st E a w h (gA.refl _ _) hn rfl hS
 | n + 1, top, ro, htop, n0, .blk _ :: k, st, Ψ, h => by
  intro m E base w0 a w Q hm hS hn hQ
  rw [M8]
  exact zF hC hD hrin n top ro htop n0 k st Ψ h m E base w0 a w Q hm hS hn hQ
 | n + 1, top, ro, htop, n0, .code c :: k, st, Ψ, h => by
  have ih0 := zF hC hD (fc := fc) (nt := nt) (inv := inv) hrin n
  have ih := ih0 top ro htop n0
  have hcall : eR P η (xR C dr fc) := xS hC (DU hC hD fc)
  intro m E base w0 a w Q hm hS hn hQ
  simp only [vcK] at h
  split at h
  ·rw [dB]
   exact wpIn_skip (ih k st Ψ h m E base w0 a w Q hm hS hn hQ)
  ·rw [dB]
   refine wpIn_ret ?_
   rw [bR (by simp)]
   exact o8 (by simp) (hQ .ret st E a w h (gA.refl _ _) hn rfl hS)
  ·rename_i id
   rw [dB]
   refine wpIn_exit ?_
   rw [bR (by simp)]
   split at h
   ·rename_i k' hk
    exact wT hk (ih k' st Ψ h m E base w0 a w Q hm hS hn hQ)
   ·rename_i hk
    exact wU hk (hQ (.exit id) st E a w h (gA.refl _ _) hn rfl hS)
  ·rename_i x y
   have := ih (.code x :: .code y :: k) st Ψ h m E base w0 a w Q hm hS hn hQ
   rw [dB] at this ⊢
   refine wpIn_seq (wpIn_mono this fun e a w he => ?_)
   cases e with
   | normal => rw [dX, dB] at he; exact he
   | _ => rw [bR (by simp), o7] at he; exact (by rw [← bR (k := k) (by simp)] at he; exact he)
  ·rename_i c x y
   split at h
   ·rename_i bx hb
    have h1 := TF h
    have ec := hS.fr.orel c _ hb
    simp only [Sv.den, Sc.den, Option.some.injEq] at ec
    have := ih _ _ Ψ h1 m E base w0 a w Q hm ((hS.of_pc hS.pc).of_litO hb) hn hQ
    rw [dB] at this ⊢
    refine wpIn_cond ec.symm ?_
    cases hbx : bx.den η <;> simpa [hbx] using this
   ·exact h.elim
  ·rename_i id c
   have := ih (.code c :: .blk id :: k) st Ψ h m E base w0 a w Q hm hS hn hQ
   rw [dB] at this ⊢
   refine wpIn_block (wpIn_mono this fun e a w he => ?_)
   cases e with
   | normal => rw [dX, M8] at he; exact he
   | exit i =>
    rw [bR (by simp)] at he
    simp only [Exit.inBlock]
    by_cases hid : i = id
    ·subst hid
     rw [CU] at he
     simp only [if_true]
     exact he
    ·rw [lR (fun e => by injection e with e; exact hid e)] at he
     simp only [hid, if_false]
     rw [bR (by simp)]
     exact he
   | _ =>
    rw [bR (by simp), lR (by simp)] at he
    exact he
  ·rename_i c
   obtain ⟨z, h1, h2⟩ := h
   obtain ⟨A, hA, x, ⟨hG, _⟩, hf⟩ := qO h1
   let I : (Σ A : { A : Alt // A ∈ (inv (pQ c)).A z }, { x : A.1.ι // A.1.G x }) → St := fun s => s.1.1.st st.lo s.2.1
   have hloop := dL.loop (P := P) (η := η) (nt := nt) (n0 := n0) (ro := ro) (c := c) (k := k) (Φ := Ψ) I (fun s => s.1.1.μ s.2.1) (fun s => by
    obtain ⟨⟨B, hB⟩, ⟨y, hy⟩⟩ := s
    have hr := H2 h2 B hB y hy
    refine (ih _ _ _ hr).mono' fun xt st' hlo hΦ => ?_
    cases xt with
    | normal =>
     obtain ⟨D, hD, zz, ⟨hz, hμ⟩, hfz⟩ := qO hΦ
     have hlo : st'.lo = st.lo := hlo
     refine ⟨⟨⟨D, hD⟩, ⟨zz, hz⟩⟩, hμ, ?_⟩
     have := Alt.fits_sub (η := η) hfz
     rw [hlo] at this
     exact this
    | ret => exact hΦ
    | exit id =>
     simp only [tW]
     simp only at hΦ
     split at hΦ
     ·rename_i k' hk
      rw [hk]
      exact ih k' st' Ψ hΦ
     ·rename_i hk
      rw [hk]
      exact hΦ) ⟨⟨A, hA⟩, ⟨x, hG⟩⟩
   exact dL.sub (Alt.fits_sub hf) hloop m E base w0 a w Q hm hS hn hQ
  ·rename_i ops
   obtain ⟨st1, h1, h2⟩ := aA.sat_at h
   rw [dB]
   refine wpIn_region ?_
   have := pZ (ro := ro) (m := m) hC hcall (eG ro m P Q k) ops.toList 0 st st1 (fun j => by simp) h1 E base w0 a w hS (fun E' a' w' hA hn' hlo hS' => ih k st1 Ψ h2 m E' base w0 a' w' Q hm hS' (Nat.le_trans hn hn') fun x st' E'' a'' w'' hΦ hA' hn'' hlo' hS'' => hQ x st' E'' a'' w'' hΦ ((hA.less hn).comes.trans hA' (Nat.le_refl _)) hn'' (hlo'.trans hlo) hS'')
   rw [List.range_eq_range']
   simpa using this
  ·rename_i ops
   obtain ⟨st1, h1, h2⟩ := aA.sat_at h
   rw [dB]
   exact hD _ hcall nt ops st st1 h1 E base w0 a w hS (eG ro m P Q k) _ (fun E' a' w' hA hn' hlo hS' => ih k st1 Ψ h2 m E' base w0 a' w' Q hm hS' (Nat.le_trans hn hn') fun x st' E'' a'' w'' hΦ hA' hn'' hlo' hS'' => hQ x st' E'' a'' w'' hΦ ((hA.less hn).comes.trans hA' (Nat.le_refl _)) hn'' (hlo'.trans hlo) hS'') ro m
  ·rename_i g ps assign body
   split at h
   ·rename_i F f caps hRi hg
    obtain ⟨z, ⟨⟨⟨h1, h2⟩, h3⟩, h4, h5⟩, h6, h7⟩ := h
    simp only [Bool.and_eq_true] at h1
    obtain ⟨a1, a2, a3, a4, a5, a6⟩ := h1
    have a1 := Nat.eq_of_beq_eq_true a1
    subst a1
    have hro := htop rfl
    subst hro
    refine dL.rangeF (F.R z) (hrin _ F hRi z) hg ⟨⟨Nat.eq_of_beq_eq_true a2, a3⟩, Nat.le_of_ble_eq_true a4, Nat.le_of_ble_eq_true a5⟩ h2 a6 h3 (fun x => (EY (h4 x)).choose) (fun x => (EY (h4 x)).choose_spec) (fun l pre x hG hlen => ?_) (fun hG => ih _ _ _ (h6 hG)) (fun pre hp hG => ih _ _ _ (h7 pre hp hG)) m E base w0 a w Q hm hS hn hQ
    have := h5 pre x hG hlen
    rw [(EY (h4 x)).choose_spec] at this
    exact ih0 false (some l) (fun e => by cases e) st.nx _ _ _ this
   ·cases h
  ·exact h.elim

end
end Go.Ex

