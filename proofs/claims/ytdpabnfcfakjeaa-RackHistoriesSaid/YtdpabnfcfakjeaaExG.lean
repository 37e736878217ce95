/-
  Functions that hand back structures of their own in new memory (a pointer to a record, a map, rows that may be written on): what they leave in the caller's heap.
-/
import Derived.Test.YtdpabnfcfakjeaaExK

namespace Go.Ex
open Go Go.Proofs Go.RowKit
noncomputable section

theorem RunsK.post {P : Program} {η : Env} {nt n0 : Nat} {ro : Option Nat} {st : St} {k : List It} {Φ Ψ : Xt → St → Prop} (h : RunsK P η nt n0 ro st k Φ) (hi : ∀ x st', Φ x st' → ∃ st1, Sub η n0 st1 st' ∧ Ψ x st1) : RunsK P η nt n0 ro st k Ψ :=
  fun m E base w0 a w Q hm hS hn hQ => h m E base w0 a w Q hm hS hn fun x st' E' a' w' hΦ hA hn' hlo hS' => by
    obtain ⟨st1, hs, hΨ⟩ := hi x st' hΦ
    obtain ⟨E1, hA1, hS1⟩ := hs.sub E' nt base w0 a' w' hS' hn'
    exact hQ x st1 E1 a' w' hΨ (hA.trans hA1.comes (Nat.le_refl _)) (hs.nx hn') (hs.lo.trans hlo) hS1

/-! ## Blocks, with other numbers -/
def shSc (m δ : Nat) : Sc → Option Sc
  | .bool b => some (.bool b)
  | .int k x => some (.int k x)
  | .str l => some (.str l)
  | .ostr l => some (.ostr l)
  | .ptr none => some (.ptr none)
  | .ptr (some a) => bif Nat.ble m a.1 then some (.ptr (some (a.1 + δ, a.2))) else none
  | .slice none n (.known c) => some (.slice none n (.known c))
  | .own b n => bif Nat.ble m b then some (.own (b + δ) n) else none
  | .map none => some (.map none)
  | .map (some b) => bif Nat.ble m b then some (.map (some (b + δ))) else none
  | _ => none
def shLs (m δ : Nat) : List Sc → Option (List Sc)
  | [] => some []
  | c :: l => match shSc m δ c, shLs m δ l with
    | some c, some l => some (c :: l)
    | _, _ => none
def shPs (m δ : Nat) : List (Bool × List Sc) → Option (List (Bool × List Sc))
  | [] => some []
  | c :: l => match shLs m δ c.2, shPs m δ l with
    | some d, some l => some ((c.1, d) :: l)
    | _, _ => none
def shSv (m δ : Nat) : Sv → Option Sv
  | .one c => (shSc m δ c).map .one
  | .agg l => (shLs m δ l).map .agg
  | .tup l => (shPs m δ l).map .tup
  | .undef => none
def shBlk (m δ : Nat) : Blk → Option Blk
  | .cells e sz l => (shLs m δ l).map (.cells e sz)
  | .map ss ag f => some (.map ss ag f)
  | .row e cs n f => bif cs.all plainSh then some (.row e cs n f) else none
  | _ => none
def shBs (m δ : Nat) : List (Nat × Blk) → Option (List (Nat × Blk))
  | [] => some []
  | p :: l => match shBlk m δ p.2, shBs m δ l with
    | some b, some l => some ((p.1 + δ, b) :: l)
    | _, _ => none
variable {η : Env} {E1 E2 : Emb} {m δ : Nat}
theorem shSc_den (hE : ∀ i x, m ≤ i → E1 i = some x → E2 (i + δ) = some x) {c c' : Sc} {v : Value} (h : shSc m δ c = some c') (hv : c.den η E1 = some v) : c'.den η E2 = some v := by
  unfold shSc at h
  split at h <;> first | (cases h; done) | skip
  · cases h; exact hv
  · cases h; exact hv
  · cases h; exact hv
  · cases h; exact hv
  · cases h; exact hv
  · rename_i a
    cases hb : Nat.ble m a.1 with
    | false => rw [hb] at h; cases h
    | true =>
      rw [hb] at h; cases h
      simp only [Sc.den, denAddr] at hv ⊢
      cases he : E1 a.1 with
      | none => rw [he] at hv; cases hv
      | some B => rw [he] at hv; rw [hE _ _ (Nat.le_of_ble_eq_true hb) he]; exact hv
  · cases h; exact hv
  · rename_i b n
    cases hb : Nat.ble m b with
    | false => rw [hb] at h; cases h
    | true =>
      rw [hb] at h; cases h
      simp only [Sc.den] at hv ⊢
      cases he : E1 b with
      | none => rw [he] at hv; cases hv
      | some B => rw [he] at hv; rw [hE _ _ (Nat.le_of_ble_eq_true hb) he]; exact hv
  · cases h; exact hv
  · rename_i b
    cases hb : Nat.ble m b with
    | false => rw [hb] at h; cases h
    | true =>
      rw [hb] at h; cases h
      simp only [Sc.den] at hv ⊢
      cases he : E1 b with
      | none => rw [he] at hv; cases hv
      | some B => rw [he] at hv; rw [hE _ _ (Nat.le_of_ble_eq_true hb) he]; exact hv
theorem shLs_den (hE : ∀ i x, m ≤ i → E1 i = some x → E2 (i + δ) = some x) : ∀ {l l' : List Sc} {vs : List Value}, shLs m δ l = some l' → denL η E1 l = some vs → denL η E2 l' = some vs
  | [], l', vs, h, hv => by cases h; exact hv
  | c :: l, l', vs, h, hv => by
    simp only [shLs] at h
    split at h
    · rename_i d m h1 h2
      cases h
      obtain ⟨v, us, e1, e2, rfl⟩ := denL_cons hv
      simp only [denL, shSc_den hE h1 e1, shLs_den hE h2 e2]
    · cases h
theorem shPs_den (hE : ∀ i x, m ≤ i → E1 i = some x → E2 (i + δ) = some x) : ∀ {l l' : List (Bool × List Sc)} {vs : List Value}, shPs m δ l = some l' → denParts η E1 l = some vs → denParts η E2 l' = some vs
  | [], l', vs, h, hv => by cases h; exact hv
  | c :: l, l', vs, h, hv => by
    simp only [shPs] at h
    split at h
    · rename_i d m h1 h2
      cases h
      simp only [denParts] at hv
      split at hv
      · rename_i v us e1 e2
        cases hv
        have e3 : denPart η E2 (c.1, d) = some v := by
          obtain ⟨t, cs⟩ := c
          cases t with
          | true =>
            simp only [denPart, Option.map_eq_some_iff] at e1 ⊢
            obtain ⟨r, g1, g2⟩ := e1
            exact ⟨r, shLs_den hE h1 g1, g2⟩
          | false =>
            match cs, h1, e1 with
            | [x], h1, e1 =>
              simp only [shLs] at h1
              split at h1
              · rename_i y _ h3 h4
                cases h4; cases h1
                simp only [denPart] at e1 ⊢
                exact shSc_den hE h3 e1
              · cases h1
            | [], _, e1 => simp [denPart] at e1
            | _ :: _ :: _, _, e1 => simp [denPart] at e1
        simp only [denParts, e3, shPs_den hE h2 e2]
      · cases hv
    · cases h
theorem shSv_den (hE : ∀ i x, m ≤ i → E1 i = some x → E2 (i + δ) = some x) {s s' : Sv} {v : Value} (h : shSv m δ s = some s') (hv : s.den η E1 = some v) : s'.den η E2 = some v := by
  cases s with
  | one c =>
    simp only [shSv, Option.map_eq_some_iff] at h
    obtain ⟨d, h1, rfl⟩ := h
    exact shSc_den hE h1 hv
  | agg l =>
    simp only [shSv, Option.map_eq_some_iff] at h
    obtain ⟨d, h1, rfl⟩ := h
    simp only [Sv.den, Option.map_eq_some_iff] at hv ⊢
    obtain ⟨r, g1, g2⟩ := hv
    exact ⟨r, shLs_den hE h1 g1, g2⟩
  | tup l =>
    simp only [shSv, Option.map_eq_some_iff] at h
    obtain ⟨d, h1, rfl⟩ := h
    simp only [Sv.den, Option.map_eq_some_iff] at hv ⊢
    obtain ⟨r, g1, g2⟩ := hv
    exact ⟨r, shPs_den hE h1 g1, g2⟩
  | undef => cases h
theorem shBlk_rel (hE : ∀ i x, m ≤ i → E1 i = some x → E2 (i + δ) = some x) {b b' : Blk} {K : Nat} {o : Option Obj} (h : shBlk m δ b = some b') (hr : b.Rel η E1 K o) : b'.Rel η E2 K o := by
  cases b with
  | cells e sz l =>
    simp only [shBlk, Option.map_eq_some_iff] at h
    obtain ⟨d, h1, rfl⟩ := h
    obtain ⟨c, vs, rest, k1, k2, k3, k4, k5⟩ := hr
    exact ⟨c, vs, rest, k1, k2, k3, shLs_den hE h1 k4, k5⟩
  | map ss ag f => cases h; exact hr
  | row e cs n f =>
    simp only [shBlk] at h
    cases hc : cs.all plainSh with
    | false => rw [hc] at h; cases h
    | true =>
      rw [hc] at h; cases h
      obtain ⟨c, k1, k2, k3, k4, k5, k6⟩ := hr
      refine ⟨c, k1, k2, k3, k4, k5, fun i hi j hj => ?_⟩
      obtain ⟨q1, u, q2, q3⟩ := k6 i hi j hj
      exact ⟨q1, u, q2, Reads.plain (plain_shAt hc hj) q1 q3⟩
  | arow l => cases h
  | mat q e s n x m f => cases h
theorem shBlk_noM {b b' : Blk} (h : shBlk m δ b = some b') : b'.noM ∧ b'.own := by
  cases b with
  | cells e sz l =>
    simp only [shBlk, Option.map_eq_some_iff] at h
    obtain ⟨d, h1, rfl⟩ := h
    exact ⟨trivial, trivial⟩
  | map ss ag f => cases h; exact ⟨trivial, trivial⟩
  | row e cs n f =>
    simp only [shBlk] at h
    cases hc : cs.all plainSh with
    | false => rw [hc] at h; cases h
    | true => rw [hc] at h; cases h; exact ⟨trivial, trivial⟩
  | arow l => cases h
  | mat q e s n x m f => cases h
theorem shBs_mem : ∀ {l l' : List (Nat × Blk)}, shBs m δ l = some l' → ∀ p ∈ l', ∃ q ∈ l, p.1 = q.1 + δ ∧ shBlk m δ q.2 = some p.2
  | [], l', h, p, hp => by cases h; cases hp
  | q :: l, l', h, p, hp => by
    simp only [shBs] at h
    split at h
    · rename_i b m h1 h2
      cases h
      cases hp with
      | head => exact ⟨q, List.mem_cons_self .., rfl, h1⟩
      | tail _ hp =>
        obtain ⟨r, g1, g2⟩ := shBs_mem h2 p hp
        exact ⟨r, List.mem_cons_of_mem _ g1, g2⟩
    · cases h

/-! ## The caller's heap, with the new blocks -/
/-- Where the blocks lie then: those of a run of its own, from 1 on, behind the caller's. -/
def joinE (E E1 : Emb) (m nx : Nat) : Emb := { E with b := fun i => if nx ≤ i then E1 (i - nx + m) else E i }
theorem joinE_new (E E1 : Emb) {m nx i : Nat} (h1 : m ≤ nx) (hi : m ≤ i) : joinE E E1 m nx (i + (nx - m)) = E1 i := by
  show (if nx ≤ i + (nx - m) then E1 (i + (nx - m) - nx + m) else _) = _
  rw [if_pos (by omega), show i + (nx - m) - nx + m = i by omega]
theorem joinE_old (E E1 : Emb) {m nx i : Nat} (hi : i < nx) : joinE E E1 m nx i = E i := if_neg (by omega)
theorem join_rel {E E1 : Emb} {hp : T Blk} {nx lo base : Nat} {w w' : World} (h : HRel η E hp nx lo base w) (hb : Below w.heap.size w w') {bl bl' : List (Nat × Blk)} {nF : Nat} (hF : HRel η E1 (T.ofList bl) nF m w.heap.size w')
    (hnx : m ≤ nx) (hlo : lo ≤ nx) (hnF : m ≤ nF) (hlim : nx + nF - m ≤ 65000) (hsh : shBs m (nx - m) bl = some bl') (hlt : ∀ p ∈ bl, m ≤ p.1 ∧ p.1 < 65535) (hnd : ∀ p ∈ bl, (T.ofList bl).get p.1 = some p.2) :
    HRel η (joinE E E1 m nx) (hpAdd hp bl') (nx + nF - m) lo base w' ∧ Agree E (joinE E E1 m nx) nx ∧ ∀ i x, m ≤ i → E1 i = some x → joinE E E1 m nx (i + (nx - m)) = some x := by
  have hb1 := h.below hb
  have hsz := hb.size
  have hle : E.le (joinE E E1 m nx) := ⟨(fun i x hx => by
    rcases Nat.lt_or_ge i nx with hi | hi
    · rw [joinE_old _ _ hi]; exact hx
    · rw [h.free i hi] at hx; cases hx), fun _ _ _ h => h, fun _ _ _ h => h, fun _ _ _ h => h⟩
  have hnew : ∀ i x, nx ≤ i → joinE E E1 m nx i = some x → E1 (i - nx + m) = some x := fun i x hi hx => by
    have : (if nx ≤ i then E1 (i - nx + m) else E i) = some x := hx
    rwa [if_pos hi] at this
  have hge : ∀ i B K, nx ≤ i → joinE E E1 m nx i = some (B, K) → w.heap.size ≤ B := fun i B K hi hx => hF.hi _ B K (by omega) (hnew i _ hi hx)
  have hold : ∀ i B K, i < nx → joinE E E1 m nx i = some (B, K) → B < w.heap.size := fun i B K hi hx => by
    rw [joinE_old _ _ hi] at hx
    exact h.top i B K hx
  have hsm : ∀ p ∈ bl', p.1 < 65535 := fun p hp => by
    obtain ⟨q, g1, g2, _⟩ := shBs_mem hsh p hp
    have := hF.dom q.1 q.2 (hnd q g1)
    omega
  have hget : ∀ i b, (hpAdd hp bl').get i = some b → (nx ≤ i ∧ ∃ q ∈ bl, i = q.1 + (nx - m) ∧ shBlk m (nx - m) q.2 = some b) ∨ (i < nx ∧ hp.get i = some b) := fun i b hi => by
    rcases hpAdd_mem hsm i b hi with ⟨p, hp1, rfl⟩ | hi
    · obtain ⟨q, g1, g2, g3⟩ := shBs_mem hsh _ hp1
      have := (hlt q g1).1
      exact .inl ⟨by omega, q, g1, g2, g3⟩
    · exact .inr ⟨h.dom i b hi, hi⟩
  have hE : ∀ i x, E1 i = some x → m ≤ i → joinE E E1 m nx (i + (nx - m)) = some x := fun i x hx hi => by rw [joinE_new _ _ hnx hi]; exact hx
  refine ⟨⟨fun i b hi => ?_, fun i b hi => ?_, fun i j b c B C K L hij hi hj hEi hEj => ?_, fun i B K hl hEi => ?_, fun i B K hEi => ?_, hb1.bot, fun i hi => ?_, hlim, hb1.zw, fun i b B K hi ho hEi o => ?_, fun k hk => h.rfree k (by omega), fun D o hD => ⟨(hb1.dk D o hD).1, (hb1.dk D o hD).2.1, (hb1.dk D o hD).2.2.1, fun i K hEi => ?_⟩, h.rn, ?_⟩, ⟨fun i hi => joinE_old _ _ hi, fun _ _ _ => rfl, fun _ _ _ h => h, fun _ _ h => h, rfl, fun _ _ _ => rfl⟩, fun i x hi hx => hE i x hx hi⟩
  · rcases hget i b hi with ⟨_, q, g1, g2, _⟩ | ⟨hi', _⟩
    · have := hF.dom q.1 q.2 (hnd q g1)
      omega
    · omega
  · rcases hget i b hi with ⟨_, q, g1, g2, g3⟩ | ⟨hi', hi⟩
    · obtain ⟨B, K, k1, k2⟩ := hF.cell q.1 q.2 (hnd q g1)
      have hq1 := (hlt q g1).1
      refine ⟨B, K, by rw [g2]; exact hE _ _ k1 hq1, ?_⟩
      exact shBlk_rel (E1 := E1) (E2 := joinE E E1 m nx) (fun j x hj hx => hE j x hx hj) g3 k2
    · obtain ⟨B, K, k1, k2⟩ := hb1.cell i b hi
      exact ⟨B, K, by rw [joinE_old _ _ hi']; exact k1, k2.mono hle⟩
  · rcases hget i b hi with ⟨h1, q, g1, g2, _⟩ | ⟨h1, hi⟩ <;> rcases hget j c hj with ⟨h2, r, g4, g5, _⟩ | ⟨h2, hj⟩
    · have e1 := hnew i _ h1 hEi
      have e2 := hnew j _ h2 hEj
      have a1 := (hlt q g1).1
      have a2 := (hlt r g4).1
      rw [show i - nx + m = q.1 by omega] at e1
      rw [show j - nx + m = r.1 by omega] at e2
      exact hF.inj q.1 r.1 q.2 r.2 B C K L (by omega) (hnd q g1) (hnd r g4) e1 e2
    · have := hge i B K h1 hEi
      have := hold j C L h2 hEj
      omega
    · have := hold i B K h1 hEi
      have := hge j C L h2 hEj
      omega
    · rw [joinE_old _ _ h1] at hEi
      rw [joinE_old _ _ h2] at hEj
      exact h.inj i j b c B C K L hij hi hj hEi hEj
  · rcases Nat.lt_or_ge i nx with hi | hi
    · rw [joinE_old _ _ hi] at hEi
      exact h.hi i B K hl hEi
    · have := hge i B K hi hEi
      have := h.bot
      omega
  · rcases Nat.lt_or_ge i nx with hi | hi
    · have := hold i B K hi hEi
      omega
    · exact hF.top _ B K (hnew i _ hi hEi)
  · show (if nx ≤ i then E1 (i - nx + m) else E i) = none
    rw [if_pos (by omega)]
    exact hF.free _ (by omega)
  · rcases hget i b hi with ⟨h1, _⟩ | ⟨h1, hi⟩
    · have := hge i B K h1 hEi
      cases hz : E.z B o with
      | none => exact hz
      | some v => have := h.zlt hz; omega
    · rw [joinE_old _ _ h1] at hEi
      exact h.zd i b B K hi ho hEi o
  · rcases Nat.lt_or_ge i nx with hi | hi
    · rw [joinE_old _ _ hi] at hEi
      exact (h.dk D o hD).2.2.2 i K hEi
    · have := hge i D K hi hEi
      have := (Array.getElem?_eq_some_iff.1 (h.dk D o hD).2.1).1
      omega
  · have hm := hb1.mt
    refine hm.keep (fun _ _ => rfl) (by omega) hm.hi (Nat.le_refl _) (fun b' q' e' s' n' x' m' f' hg => ?_) (fun _ _ _ h => h) (fun _ _ => rfl) (fun _ _ => rfl) hm.z (fun B hB j c K hj hEj => ?_)
    · rcases hget b' _ hg with ⟨_, q, _, _, g3⟩ | ⟨h1, hg⟩
      · exact (shBlk_noM g3).1.elim
      · exact ⟨hg, joinE_old _ _ h1⟩
    · rcases hget j c hj with ⟨h1, _⟩ | ⟨h1, hj⟩
      · have := hge j B K h1 hEj
        have := MIn.lt h.mt hB
        omega
      · rw [joinE_old _ _ h1] at hEj
        exact h.mt.own B hB j c K hj hEj

/-! ## Contracts -/
structure NewP where
  tl : List (Nat × Sv)
  bl : List (Nat × Blk)
  nx : Nat
  s : Sv
def NewP.alt (p : NewP) : Alt := ⟨Unit, fun _ => True, fun _ => 0, fun _ => p.tl, fun _ => p.bl, p.nx⟩
def NewP.ok (C : Cx) (fi : FI) (p : NewP) : Prop := resX C (T.ofList p.bl) (T.ofList p.tl) fi.res = some p.s
/-- Several ends, each with its test; and the last. -/
def okL (C : Cx) (fi : FI) : List (Bool × NewP) → NewP → Prop
  | [], d => d.ok C fi
  | p :: l, d => p.2.ok C fi ∧ okL C fi l d
/-- Where such a run ends. -/
def endL (m : Nat) (st' : St) : List (Bool × NewP) → NewP → Prop
  | [], d => d.alt.fits m st' ()
  | p :: l, d => (p.1 = true → p.2.alt.fits m st' ()) ∧ (p.1 = false → endL m st' l d)
def EndM (m : Nat) (l : List (Bool × NewP)) (d : NewP) : Xt → St → Prop := fun x st' => match x with
  | .exit _ => False
  | _ => endL m st' l d
abbrev EndN (l : List (Bool × NewP)) (d : NewP) : Xt → St → Prop := EndM 1 l d
def NewOk (C : Cx) (P : Program) (η : Env) (f : FuncId) (fi : FI) (sig : List PT) (ck : List FD → Bool) (l : List FD → List (Bool × NewP)) (d : List FD → NewP) : Prop :=
  FI.Ok P f fi ∧ ∀ fds, FitL (sigS sig) fds → ck fds = true → ((Nat.ble (argSs 0 sig fds).length fi.ntmps && Nat.ble fi.ntmps 60000) = true ∧ okL C fi (l fds) (d fds) ∧ RunsK P η fi.ntmps 1 none (startSt sig fds) [.code fi.body] (EndN (l fds) (d fds)))

def inL (n : Nat) : List (Nat × Blk) → Bool
  | [] => false
  | p :: l => Nat.beq n p.1 || inL n l
def distL (m : Nat) : List (Nat × Blk) → Bool
  | [] => true
  | p :: l => !inL p.1 l && (Nat.ble m p.1 && (Nat.blt p.1 65535 && distL m l))
theorem inL_of {n : Nat} : ∀ {l : List (Nat × Blk)} {p : Nat × Blk}, p ∈ l → p.1 = n → inL n l = true
  | q :: l, p, h, e => by
    cases h with
    | head => simp [inL, e]
    | tail _ h => simp [inL, inL_of h e]
theorem distL_get {m : Nat} : ∀ {l : List (Nat × Blk)}, distL m l = true → (∀ p ∈ l, m ≤ p.1 ∧ p.1 < 65535) ∧ ∀ p ∈ l, (T.ofList l).get p.1 = some p.2
  | [], _ => ⟨(fun p h => by cases h), (fun p h => by cases h)⟩
  | q :: l, h => by
    simp only [distL, Bool.and_eq_true, Bool.not_eq_true'] at h
    obtain ⟨h1, h2, h3, h4⟩ := h
    obtain ⟨g1, g2⟩ := distL_get h4
    have h2 := Nat.le_of_ble_eq_true h2
    have h3 : q.1 < 65535 := Nat.le_of_ble_eq_true h3
    refine ⟨fun p hp => ?_, fun p hp => ?_⟩
    · cases hp with
      | head => exact ⟨h2, h3⟩
      | tail _ hp => exact g1 p hp
    · show ((T.ofList l).set q.1 (some q.2)).get p.1 = some p.2
      cases hp with
      | head => rw [T.get_set_same _ _ _ h3]
      | tail _ hp =>
        rw [T.get_set_ne _ _ _ _ (fun e => by
          have := inL_of hp e.symm
          rw [h1] at this; cases this)]
        exact g2 p hp
def postN (m : Nat) (hp : T Blk) (nx lo : Nat) (pc : PC) (p : NewP) : Tree (Sv × ((T Blk × Nat) × PC)) :=
  match shSv m (nx - m) p.s, shBs m (nx - m) p.bl with
  | some s, some bl => bif Nat.ble m nx && (Nat.ble lo nx && (Nat.ble m p.nx && (Nat.ble (nx + p.nx - m) 65000 && distL m p.bl))) then .leaf (s, ((hpAdd hp bl, nx + p.nx - m), pc)) else .fail
  | _, _ => .fail
def newT (m : Nat) (hp : T Blk) (nx lo : Nat) (pc : PC) : List (Bool × NewP) → NewP → Tree (Sv × ((T Blk × Nat) × PC))
  | [], d => postN m hp nx lo pc d
  | p :: l, d => .fork (.tm p.1) (postN m hp nx lo pc p.2) (newT m hp nx lo pc l d)
def newG (sig : List PT) (ck : List FD → Bool) (l : List FD → List (Bool × NewP)) (d : List FD → NewP) : Esf := fun hp nx lo svs pc =>
  match getArgs sig svs with
  | some fds => chk (ck fds) (newT 1 hp nx lo pc (l fds) (d fds))
  | none => .fail
theorem postN_run {C : Cx} {P : Program} {η : Env} (hC : C.Ok P η) {f : FuncId} {fi : FI} (hF : FI.Ok P f fi) {m : Nat} {svs0 : List Sv} {hp0 : T Blk} {p : NewP} (hok : p.ok C fi) (hlen : (Nat.ble svs0.length fi.ntmps && Nat.ble fi.ntmps 60000) = true)
    (hr : RunsK P η fi.ntmps m none ⟨setArgs 0 svs0 .nil, hp0, m, m, []⟩ [.code fi.body] fun x st' => (x = .normal ∨ x = .ret) ∧ p.alt.fits m st' ()) {hp : T Blk} {nx lo : Nat} {pc : PC} {r : Sv × ((T Blk × Nat) × PC)} (hg : (postN m hp nx lo pc p).at_ η = some r) (hpc : pc.holds η)
    {E E0 : Emb} {base : Nat} {w0 w : World} {args : List Value} (hH : HRel η E hp nx lo base w) (hB : Below base w0 w) (hH0 : HRel η E0 hp0 m m w.heap.size w) (hv : denArgs η E0 svs0 = some args) (hdl : E0.dl.l = []) :
    Calls P f args.toArray w fun e w' => ∃ v E', e = .returned v ∧ r.1.den η E' = some v ∧ Agree E E' nx ∧ HRel η E' r.2.1.1 r.2.1.2 lo base w' ∧ Below base w0 w' ∧ r.2.2.holds η ∧ nx ≤ r.2.1.2 := by
  unfold postN at hg
  split at hg
  · rename_i s bl hs hbl
    cases hb : (Nat.ble m nx && (Nat.ble lo nx && (Nat.ble m p.nx && (Nat.ble (nx + p.nx - m) 65000 && distL m p.bl)))) with
    | false => rw [hb] at hg; cases hg
    | true =>
      rw [hb] at hg; cases hg
      simp only [Bool.and_eq_true] at hb
      obtain ⟨b1, b2, b3, b4, b5⟩ := hb
      have b1 := Nat.le_of_ble_eq_true b1
      have b2 := Nat.le_of_ble_eq_true b2
      have b3 := Nat.le_of_ble_eq_true b3
      have b4 := Nat.le_of_ble_eq_true b4
      obtain ⟨d1, d2⟩ := distL_get b5
      have hr2 := hr.post (Ψ := fun x st1 => (x = .normal ∨ x = .ret) ∧ ∃ lo, st1 = p.alt.st lo ()) fun x st' ⟨hx, hf⟩ => ⟨p.alt.st st'.lo (), Alt.fits_sub hf, hx, _, rfl⟩
      refine run_fn hC hF (n0 := m) (nx := m) (lo := m) (Nat.le_refl _) (Nat.le_refl _) hr2 hlen hH0 (Below.refl _ _) hv hdl (Ψ := fun st' s => s = p.s ∧ st'.hp = T.ofList p.bl ∧ st'.nx = p.nx) (fun x st' hx => ?_) ?_
      · obtain ⟨hx, lo', rfl⟩ := hx
        exact ⟨hx, p.s, hok, rfl, rfl, rfl⟩
      · rintro st' s' v E' w' ⟨rfl, e1, e2⟩ hd hH' hB' hz0
        rw [e1, e2] at hH'
        obtain ⟨k1, k2, k3⟩ := join_rel hH hB' hH' b1 b2 b3 b4 hbl d1 d2
        exact ⟨v, joinE E E' m nx, rfl, shSv_den (fun i x hi hx => k3 i x hi hx) hs hd, k2, k1, hB.trans (hB'.mono hH.bot), hpc, by show nx ≤ nx + p.nx - m; omega⟩
  · cases hg
theorem newT_pick {m : Nat} {C : Cx} {fi : FI} {hp : T Blk} {nx lo : Nat} {pc : PC} {r : Sv × ((T Blk × Nat) × PC)} {η : Env} : ∀ {l : List (Bool × NewP)} {d : NewP}, (newT m hp nx lo pc l d).at_ η = some r → okL C fi l d → ∃ p : NewP, p.ok C fi ∧ (postN m hp nx lo pc p).at_ η = some r ∧ ∀ st', endL m st' l d → p.alt.fits m st' ()
  | [], d, h, hk => ⟨d, hk, h, fun _ h => h⟩
  | (c, p) :: l, d, h, hk => by
    have h : (if (Atom.tm c).den η = true then (postN m hp nx lo pc p).at_ η else (newT m hp nx lo pc l d).at_ η) = some r := h
    cases c with
    | true => exact ⟨p, hk.1, by rwa [if_pos (show Atom.den η (Atom.tm true) = true from rfl)] at h, fun st' he => he.1 rfl⟩
    | false =>
      rw [if_neg (by simp [Atom.den])] at h
      obtain ⟨q, q1, q2, q3⟩ := newT_pick h hk.2
      exact ⟨q, q1, q2, fun st' he => q3 st' (he.2 rfl)⟩
theorem newG_es {sm : T Smf} {gs : G2} (hs : Tab SmOk sm) (hgs : G2Ok gs) {f : FuncId} {fi : FI} {sig : List PT} {ck : List FD → Bool} {l : List FD → List (Bool × NewP)} {d : List FD → NewP} (h : NewOk (mkR sm gs) Try.prog η0 f fi sig ck l d) : EsOk f (newG sig ck l d) := by
  intro hp nx lo svs pc r hg hpc hlo E base w0 w args hH hB hv
  refine ⟨run_callFunc h.1 _ w, ?_⟩
  unfold newG at hg
  split at hg
  · rename_i fds hfds
    obtain ⟨hck, hg⟩ := at_chk hg
    obtain ⟨_, q2⟩ := getArgs_den (η := η0) (E := E) (E0 := startE E (cellsOf sig args)) rfl (k := 0) hfds hv (fun i v hi => by rw [Nat.zero_add]; exact hi)
    obtain ⟨k1, k2, k4⟩ := h.2 fds q2 hck
    have hC := mkR_ok hs hgs
    obtain ⟨p, p1, p2, p3⟩ := newT_pick hg k2
    obtain ⟨q1, _⟩ := getArgs_den (η := η0) (E := E) (E0 := startE E (cellsOf sig args)) rfl (k := 0) hfds hv (fun i v hi => by rw [Nat.zero_add]; exact hi)
    exact postN_run hC h.1 p1 k1 (k4.mono fun x st' hx => by
      cases x with
      | exit i => exact hx.elim
      | normal => exact ⟨.inl rfl, p3 st' hx⟩
      | ret => exact ⟨.inr rfl, p3 st' hx⟩) p2 hpc hH hB (startE_rel hH.zw _) q1 rfl
  · cases hg
/-- What is to be shown of such a function. -/
def vcN (sm : T Smf) (gs : G2) (fi : FI) (sig : List PT) (inv : Nat → AFam) (fds : List FD) (l : List (Bool × NewP)) (d : NewP) : Prop :=
  (Nat.ble (argSs 0 sig fds).length fi.ntmps && Nat.ble fi.ntmps 60000) = true ∧
  vcK (mkR sm gs) (drawX (mkR sm gs)) 300 fi.ntmps η0 inv noR 400 true 1 [.code fi.body] (startSt sig fds) (EndN l d)
theorem newOk_of {sm : T Smf} {gs : G2} (hs : Tab SmOk sm) (hg : G2Ok gs) {f : FuncId} {fi : FI} (hF : FI.Ok Try.prog f fi) {sig : List PT} {ck : List FD → Bool} {l : List FD → List (Bool × NewP)} {d : List FD → NewP} (inv : List FD → Nat → AFam)
    (h : ∀ fds, FitL (sigS sig) fds → ck fds = true → okL (mkR sm gs) fi (l fds) (d fds) ∧ vcN sm gs fi sig (inv fds) fds (l fds) (d fds)) : NewOk (mkR sm gs) Try.prog η0 f fi sig ck l d :=
  ⟨hF, fun fds hf hc => ⟨(h fds hf hc).2.1, (h fds hf hc).1, vcK_ok (mkR_ok hs hg) (dR hs hg) noR_ok _ true none (fun _ => rfl) _ _ _ _ (h fds hf hc).2.2⟩⟩
end
end Go.Ex

