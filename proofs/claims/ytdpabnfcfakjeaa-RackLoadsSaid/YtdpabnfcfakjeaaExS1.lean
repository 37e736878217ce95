/-
  Running code up to the next loop: what is left to do as a list; what is shown of states.
-/
import Derived.Test.YtdpabnfcfakjeaaEx21

namespace Go.Ex
open Go Go.RowKit
noncomputable section

/-- What is still to be done. -/
inductive It where
  | code (c : Code)
  | blk (id : Nat)

/-- Where a run stops: at an end, ahead of a loop, ahead of a range over a function. -/
inductive Out where
  | fin (x : Xt) (st : St)
  | loop (c : Code) (k : List It) (st : St)
  | rfn (g : Operand) (ps : Array Tmp) (asg body : Code) (k : List It) (st : St)

def popTo (id : Nat) : List It → Option (List It)
  | [] => none
  | .code _ :: k => popTo id k
  | .blk i :: k => bif Nat.beq i id then some k else popTo id k

/-! ## What is to be shown -/
def isEx (e : Exit) (id : Nat) : Bool :=
  match e with
  | .exit i => Nat.beq i id
  | _ => false
theorem isEx_iff {e : Exit} {id : Nat} : isEx e id = true ↔ e = .exit id := by
  cases e <;> simp [isEx]
abbrev Post := Exit → Act → World → Prop
mutual
def wpK (ro : Option Nat) (m : Nat) (P : Program) (Q : Post) : List It → Act → World → Prop
  | [], a, w => Q .normal a w
  | .blk _ :: k, a, w => wpK ro m P Q k a w
  | .code c :: k, a, w => c.wpIn (FW ro) m P (fun e a w => match e with
    | .normal => wpK ro m P Q k a w
    | e => unwK ro m P Q e k a w) a w
def unwK (ro : Option Nat) (m : Nat) (P : Program) (Q : Post) (e : Exit) : List It → Act → World → Prop
  | [], a, w => Q e a w
  | .code _ :: k, a, w => unwK ro m P Q e k a w
  | .blk id :: k, a, w => if isEx e id = true then wpK ro m P Q k a w else unwK ro m P Q e k a w
end

variable {ro : Option Nat} {m : Nat} {P : Program} {Q : Post}
theorem wpK_nil {a : Act} {w : World} : wpK ro m P Q [] a w = Q .normal a w := by simp only [wpK]
theorem wpK_blk {id : Nat} {k : List It} {a : Act} {w : World} : wpK ro m P Q (.blk id :: k) a w = wpK ro m P Q k a w := by simp only [wpK]
theorem unwK_nil {e : Exit} {a : Act} {w : World} : unwK ro m P Q e [] a w = Q e a w := by simp only [unwK]
theorem unwK_code {e : Exit} {c : Code} {k : List It} {a : Act} {w : World} : unwK ro m P Q e (.code c :: k) a w = unwK ro m P Q e k a w := by simp only [unwK]
theorem unwK_same {id : Nat} {k : List It} {a : Act} {w : World} : unwK ro m P Q (.exit id) (.blk id :: k) a w = wpK ro m P Q k a w := by simp only [unwK, isEx_iff.2 rfl, if_true]
theorem unwK_diff {e : Exit} {id : Nat} (he : e ≠ .exit id) {k : List It} {a : Act} {w : World} : unwK ro m P Q e (.blk id :: k) a w = unwK ro m P Q e k a w := by
  have : isEx e id ≠ true := fun h => he (isEx_iff.1 h)
  rw [unwK]; simp [this]
/-- What stands behind a code. -/
def behind (ro : Option Nat) (m : Nat) (P : Program) (Q : Post) (k : List It) : Post := fun e a w => match e with
  | .normal => wpK ro m P Q k a w
  | e => unwK ro m P Q e k a w
theorem wpK_code {c : Code} {k : List It} {a : Act} {w : World} : wpK ro m P Q (.code c :: k) a w = c.wpIn (FW ro) m P (behind ro m P Q k) a w := by
  simp only [wpK]; rfl
theorem behind_normal {k : List It} {a : Act} {w : World} : behind ro m P Q k .normal a w = wpK ro m P Q k a w := rfl
theorem behind_other {k : List It} {e : Exit} (he : e ≠ .normal) {a : Act} {w : World} : behind ro m P Q k e a w = unwK ro m P Q e k a w := by
  cases e <;> first | rfl | exact absurd rfl he

theorem unw_pop {id : Nat} : ∀ {k k' : List It} {a : Act} {w : World}, popTo id k = some k' → wpK ro m P Q k' a w → unwK ro m P Q (.exit id) k a w
  | [], _, _, _, h, _ => by cases h
  | .code c :: k, k', a, w, h, hk => by rw [unwK_code]; exact unw_pop (k := k) h hk
  | .blk i :: k, k', a, w, h, hk => by
    simp only [popTo] at h
    cases hb : Nat.beq i id with
    | true =>
      rw [hb] at h; cases h
      have := Nat.eq_of_beq_eq_true hb
      subst this
      rw [unwK_same]; exact hk
    | false =>
      rw [hb] at h
      have := Nat.ne_of_beq_eq_false hb
      rw [unwK_diff (fun e => by injection e with e; exact this e.symm)]
      exact unw_pop (k := k) h hk
theorem unw_out {id : Nat} : ∀ {k : List It} {a : Act} {w : World}, popTo id k = none → Q (.exit id) a w → unwK ro m P Q (.exit id) k a w
  | [], _, _, _, hk => by rw [unwK_nil]; exact hk
  | .code c :: k, a, w, h, hk => by rw [unwK_code]; exact unw_out (k := k) h hk
  | .blk i :: k, a, w, h, hk => by
    simp only [popTo] at h
    cases hb : Nat.beq i id with
    | true => rw [hb] at h; cases h
    | false =>
      rw [hb] at h
      have := Nat.ne_of_beq_eq_false hb
      rw [unwK_diff (fun e => by injection e with e; exact this e.symm)]
      exact unw_out (k := k) h hk
theorem unw_plain {e : Exit} (he : ∀ id, e ≠ .exit id) : ∀ {k : List It} {a : Act} {w : World}, Q e a w → unwK ro m P Q e k a w
  | [], _, _, hk => by rw [unwK_nil]; exact hk
  | .code c :: k, a, w, hk => by rw [unwK_code]; exact unw_plain he (k := k) hk
  | .blk i :: k, a, w, hk => by
    rw [unwK_diff (he i)]
    exact unw_plain he (k := k) hk

abbrev mark (D : Nat) : Deferred := { target := .collected D, args := #[] }
/-- New marks of ranges over functions, ahead of deferred calls. -/
def OverM (d d' : Nat → Option Obj) (l' l : List Deferred) : Prop := ∃ Ds : List Nat, l' = Ds.map mark ++ l ∧ Ds.Nodup ∧ ∀ D ∈ Ds, d' D = some (.deferred (some [])) ∧ d D = none
/-- E' is E below n, but for marks. -/
structure Comes (E E' : Emb) (n : Nat) : Prop where
  b : ∀ i, i < n → E' i = E i
  r : ∀ k, k < n → ∀ j, E'.r k j = E.r k j
  z : ∀ B o v, E.z B o = some v → E'.z B o = some v
  d : ∀ D o, E.d D = some o → E'.d D = some o
  z0 : E'.dl.z0 = E.dl.z0
  m : ∀ q, q < n → ∀ i, E'.m q i = E.m q i
  dl : OverM E.d E'.d E'.dl.l E.dl.l
theorem Agree.comes {E E' : Emb} {n : Nat} (h : Agree E E' n) : Comes E E' n := ⟨h.b, h.r, h.z, h.d, by rw [h.dl], h.m, [], by rw [h.dl]; rfl, List.nodup_nil, fun _ h => by cases h⟩
theorem Comes.refl (E : Emb) (n : Nat) : Comes E E n := (Agree.refl E n).comes
theorem Comes.trans {E E' E'' : Emb} {n m : Nat} (h : Comes E E' n) (h' : Comes E' E'' m) (hm : n ≤ m) : Comes E E'' n := by
  obtain ⟨ms, e1, e0, e2⟩ := h.dl
  obtain ⟨ms', e3, e5, e4⟩ := h'.dl
  refine ⟨fun i hi => (h'.b i (by omega)).trans (h.b i hi), fun k hk j => (h'.r k (by omega) j).trans (h.r k hk j), fun B o v hv => h'.z B o v (h.z B o v hv), fun D o hD => h'.d D o (h.d D o hD), h'.z0.trans h.z0, fun q hq i => (h'.m q (by omega) i).trans (h.m q hq i), ms' ++ ms, ?_, List.nodup_append.2 ⟨e5, e0, fun a ha b hb e => ?_⟩, fun D hD => ?_⟩
  · rw [e3, e1, List.map_append, List.append_assoc]
  · subst e
    have := (e4 a ha).2
    rw [(e2 a hb).1] at this
    cases this
  · rcases List.mem_append.1 hD with hD | hD
    · refine ⟨(e4 D hD).1, ?_⟩
      cases hd : E.d D with
      | none => rfl
      | some o => have := h.d D o hd; rw [(e4 D hD).2] at this; cases this
    · exact ⟨h'.d D _ (e2 D hD).1, (e2 D hD).2⟩
theorem Comes.less {E E' : Emb} {n m : Nat} (h : Comes E E' n) (hm : m ≤ n) : Comes E E' m := ⟨fun i hi => h.b i (by omega), fun k hk => h.r k (by omega), h.z, h.d, h.z0, fun q hq => h.m q (by omega), h.dl⟩

/-- From here on, all that is left to do leads to where Φ says; 'n0': the blocks that the caller knows. -/
def RunsK (P : Program) (η : Env) (nt n0 : Nat) (ro : Option Nat) (st : St) (k : List It) (Φ : Xt → St → Prop) : Prop :=
  ∀ (m : Nat) (E : Emb) (base : Nat) (w0 : World) (a : Act) (w : World) (Q : Post), (ro = none → 10 ≤ m) → SRel η E nt base w0 st a w → n0 ≤ st.nx →
    (∀ x st' E' a' w', Φ x st' → Comes E E' n0 → n0 ≤ st'.nx → st'.lo = st.lo → SRel η E' nt base w0 st' a' w' → Q x.den a' w') → wpK ro m P Q k a w

theorem RunsK.mono {η : Env} {nt n0 : Nat} {st : St} {k : List It} {Φ Ψ : Xt → St → Prop} (h : RunsK P η nt n0 ro st k Φ) (hi : ∀ x st', Φ x st' → Ψ x st') : RunsK P η nt n0 ro st k Ψ :=
  fun m E base w0 a w Q hm hS hn hQ => h m E base w0 a w Q hm hS hn fun x st' E' a' w' hΦ => hQ x st' E' a' w' (hi x st' hΦ)

theorem RunsK.mono' {η : Env} {nt n0 : Nat} {st : St} {k : List It} {Φ Ψ : Xt → St → Prop} (h : RunsK P η nt n0 ro st k Φ) (hi : ∀ x st', st'.lo = st.lo → Φ x st' → Ψ x st') : RunsK P η nt n0 ro st k Ψ :=
  fun m E base w0 a w Q hm hS hn hQ => h m E base w0 a w Q hm hS hn fun x st' E' a' w' hΦ hA hn' hlo => hQ x st' E' a' w' (hi x st' hlo hΦ) hA hn' hlo

end
end Go.Ex

