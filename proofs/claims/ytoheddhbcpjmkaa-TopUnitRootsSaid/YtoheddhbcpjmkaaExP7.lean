/-
  Summaries of calls that part: the tree of tests; what is shown of one.
-/
/-
  From a run of a law to its statement: arguments that are numbers alone, or numbers in structs and arrays.
-/
/-
  A law whose leaves are true by a fact of arithmetic of its own.
-/
import Derived.Test.YtoheddhbcpjmkaaExP6
import Derived.ProofKit

namespace Go.Ex
open Go Go.RowKit
noncomputable section

inductive Prt where
  | leaf (s : Sv)
  | small (m : Int) (ps : List Poly) (t f : Prt)
  | lt (p q : Poly) (t f : Prt)
  | eq (p : Poly) (t f : Prt)
  | code (m : Int) (ks : List Nat) (a b c : Prt)

def kInts : List Nat → List Int
  | [] => []
  | k :: l => .ofNat k :: kInts l
/-- What a summary comes to. -/
def Prt.at_ (η : Env) : Prt → Sv
  | .leaf s => s
  | .small m ps t f => bif allS η m ps then t.at_ η else f.at_ η
  | .lt p q t f => bif decide (wr (evP η.i p) < wr (evP η.i q)) then t.at_ η else f.at_ η
  | .eq p t f => bif decide (wr (evP η.i p) = 0) then t.at_ η else f.at_ η
  | .code m ks a b c => match codeOf η m (kInts ks) with
    | 0 => a.at_ η
    | 1 => b.at_ η
    | _ => c.at_ η

/-! ## Deciding -/
def sIn (pc : PC) (m : Int) (q : Poly) : Bool := DB.fits pc q && (let r := rng pc q
  leI (-m) r.1 && leI r.2 m)
def sOut (pc : PC) (m : Int) (q : Poly) : Bool := DB.fits pc q && (let r := rng pc q
  ltI m r.1 || ltI r.2 (-m))
theorem sIn_ok {η : Env} (hg : GoodF η) {pc : PC} (hpc : pc.holds η) {m : Int} {q : Poly} (h : sIn pc m q = true) : -m ≤ wr (evP η.i q) ∧ wr (evP η.i q) ≤ m := by
  simp only [sIn, Bool.and_eq_true, leI_iff] at h
  rw [(DB_ok hg.toGood).fits pc q h.1 hpc]
  obtain ⟨a, b⟩ := rng_has hg.toGood hpc q
  omega
theorem sOut_ok {η : Env} (hg : GoodF η) {pc : PC} (hpc : pc.holds η) {m : Int} {q : Poly} (h : sOut pc m q = true) : ¬ (-m ≤ wr (evP η.i q) ∧ wr (evP η.i q) ≤ m) := by
  simp only [sOut, Bool.and_eq_true, Bool.or_eq_true, ltI_iff] at h
  rw [(DB_ok hg.toGood).fits pc q h.1 hpc]
  obtain ⟨a, b⟩ := rng_has hg.toGood hpc q
  omega
def allIn (pc : PC) (m : Int) : List Poly → Bool
  | [] => true
  | q :: l => sIn pc m q && allIn pc m l
def anyOut (pc : PC) (m : Int) : List Poly → Bool
  | [] => false
  | q :: l => sOut pc m q || anyOut pc m l
theorem allIn_ok {η : Env} (hg : GoodF η) {pc : PC} (hpc : pc.holds η) {m : Int} : ∀ {l : List Poly}, allIn pc m l = true → allS η m l = true
  | [], _ => rfl
  | q :: l, h => by
    simp only [allIn, Bool.and_eq_true] at h
    have := sIn_ok hg hpc h.1
    simp only [allS, allIn_ok hg hpc h.2, decide_eq_true this.1, decide_eq_true this.2, Bool.and_self]
theorem anyOut_ok {η : Env} (hg : GoodF η) {pc : PC} (hpc : pc.holds η) {m : Int} : ∀ {l : List Poly}, anyOut pc m l = true → allS η m l = false
  | [], h => by cases h
  | q :: l, h => by
    simp only [anyOut, Bool.or_eq_true] at h
    rcases h with h | h
    · have := sOut_ok hg hpc h
      rw [allS]
      cases hc : (decide (-m ≤ wr (evP η.i q)) && decide (wr (evP η.i q) ≤ m)) with
      | false => rfl
      | true => simp only [Bool.and_eq_true, decide_eq_true_eq] at hc; exact absurd hc this
    · rw [allS, anyOut_ok hg hpc h, Bool.and_false]

def smallDec (pc : PC) (m : Int) (qs : List Poly) : Option Bool :=
  match look (.small m qs) pc with
  | some b => some b
  | none => bif allIn pc m qs then some true else bif anyOut pc m qs then some false else none
theorem smallDec_ok {η : Env} (hg : GoodF η) {pc : PC} (hpc : pc.holds η) {m : Int} {qs : List Poly} {b : Bool} (h : smallDec pc m qs = some b) : allS η m qs = b := by
  unfold smallDec at h
  split at h
  · rename_i b' hb; cases h; exact look_spec hpc hb
  · cases h1 : allIn pc m qs with
    | true => rw [h1] at h; cases h; exact allIn_ok hg hpc h1
    | false =>
      rw [h1] at h
      cases h2 : anyOut pc m qs with
      | true => rw [h2] at h; cases h; exact anyOut_ok hg hpc h2
      | false => rw [h2] at h; cases h

/-- What is known when all are small. -/
def bxFact (b : Bx) (pc : PC) : PC :=
  match b with
  | .at_ false a => (a, true) :: pc
  | _ => pc
theorem bxFact_ok {η : Env} {b : Bx} {pc : PC} (hb : b.den η = true) (h : pc.holds η) : (bxFact b pc).holds η := by
  unfold bxFact
  split
  · rename_i a
    intro y hy
    cases hy with
    | head => simpa [Bx.den] using hb
    | tail _ hy => exact h y hy
  · exact h
def smallFacts (pc0 : PC) (m : Int) : List Poly → PC → PC
  | [], pc => pc
  | q :: l, pc => bif DB.fits pc0 q then bxFact (posB (pplus q (pconst (m + 1)))) (bxFact (posB (pminus (pconst (m + 1)) q)) (smallFacts pc0 m l pc)) else smallFacts pc0 m l pc
theorem smallFacts_ok {η : Env} (hg : GoodF η) {pc0 : PC} (h0 : pc0.holds η) {m : Int} : ∀ {l : List Poly} {pc : PC}, allS η m l = true → pc.holds η → (smallFacts pc0 m l pc).holds η
  | [], pc, _, h => h
  | q :: l, pc, ha, h => by
    simp only [allS, Bool.and_eq_true, decide_eq_true_eq] at ha
    have ih := smallFacts_ok hg h0 (l := l) ha.2 h
    unfold smallFacts
    cases hf : DB.fits pc0 q with
    | false => exact ih
    | true =>
      rw [(DB_ok hg.toGood).fits pc0 q hf h0] at ha
      refine bxFact_ok ?_ (bxFact_ok ?_ ih)
      · rw [posB_den, evP_pplus, evP_pconst]; exact decide_eq_true (by omega)
      · rw [posB_den, evP_pminus, evP_pconst]; exact decide_eq_true (by omega)

/-! ## Floats -/
def faU0 (η : Env) : FA → Bool
  | .var k => η.u 0 [.ofNat k]
  | .num _ _ => true
def faU3 (η : Env) (m : Int) : FA → Bool
  | .var k => η.u 3 [.ofNat k, m]
  | .num p _ => decide (m < (evP η.i p).natAbs)
def codeFA (η : Env) (m : Int) : List FA → Nat
  | x :: y :: l => bif faU0 η x && faU0 η y then (bif faU3 η m x || faU3 η m y then 2 else codeFA η m l) else 1
  | _ => 0
def wD (pc : PC) : FA → Option Bool
  | .var k => look (.user 0 [.ofNat k]) pc
  | .num _ _ => some true
def bD (pc : PC) (m : Int) : FA → Option Bool
  | .var k => decB pc (.user 3 [.ofNat k, m])
  | .num p _ => let r := rng pc p
    bif leI (-m) r.1 && leI r.2 m then some false else bif ltI m r.1 || ltI r.2 (-m) then some true else none
theorem wD_ok {η : Env} {pc : PC} (hpc : pc.holds η) {a : FA} {b : Bool} (h : wD pc a = some b) : faU0 η a = b := by
  cases a with
  | var k => exact look_spec hpc h
  | num p x => cases h; rfl
theorem bD_ok {η : Env} (hg : GoodF η) {pc : PC} (hpc : pc.holds η) {m : Int} {a : FA} {b : Bool} (h : bD pc m a = some b) : faU3 η m a = b := by
  cases a with
  | var k => exact (DB_ok hg.toGood).dec pc _ b h hpc
  | num p x =>
    simp only [bD] at h
    obtain ⟨u, v⟩ := rng_has hg.toGood hpc p
    cases h1 : (leI (-m) (rng pc p).1 && leI (rng pc p).2 m) with
    | true =>
      rw [h1] at h; cases h
      simp only [Bool.and_eq_true, leI_iff] at h1
      exact decide_eq_false (by omega)
    | false =>
      rw [h1] at h
      cases h2 : (ltI m (rng pc p).1 || ltI (rng pc p).2 (-m)) with
      | true =>
        rw [h2] at h; cases h
        simp only [Bool.or_eq_true, ltI_iff] at h2
        exact decide_eq_true (by omega)
      | false => rw [h2] at h; cases h
/-- The code, by what is known. -/
def scanC (pc : PC) (m : Int) : List FA → Option Nat
  | x :: y :: l => match wD pc x, wD pc y with
    | some true, some true => match bD pc m x, bD pc m y with
      | some false, some false => scanC pc m l
      | some true, _ => some 2
      | _, some true => some 2
      | _, _ => none
    | some false, _ => some 1
    | _, some false => some 1
    | _, _ => none
  | _ => some 0
theorem scanC_ok {η : Env} (hg : GoodF η) {pc : PC} (hpc : pc.holds η) {m : Int} : ∀ {l : List FA} {c : Nat}, scanC pc m l = some c → codeFA η m l = c
  | [], c, h => by cases h; rfl
  | [x], c, h => by cases h; rfl
  | x :: y :: l, c, h => by
    simp only [scanC] at h
    simp only [codeFA]
    split at h
    · rename_i h1 h2
      rw [wD_ok hpc h1, wD_ok hpc h2]
      split at h
      · rename_i h3 h4
        rw [bD_ok hg hpc h3, bD_ok hg hpc h4]
        exact scanC_ok hg hpc h
      · rename_i h3; cases h; rw [bD_ok hg hpc h3]; rfl
      · rename_i h3 _; cases h; rw [bD_ok hg hpc h3, Bool.or_true]; rfl
      · cases h
    · rename_i h1; cases h; rw [wD_ok hpc h1]; rfl
    · rename_i h1 _; cases h; rw [wD_ok hpc h1, Bool.and_false]; rfl
    · cases h

def varsOf : List FA → Option (List Int)
  | [] => some []
  | .var k :: l => match varsOf l with
    | some m => some (.ofNat k :: m)
    | none => none
  | _ => none
theorem varsOf_code {η : Env} {m : Int} : ∀ {l : List FA} {js : List Int}, varsOf l = some js → codeFA η m l = codeOf η m js
  | [], js, h => by cases h; rfl
  | [.var k], js, h => by cases h; rfl
  | [.num p x], js, h => by cases h
  | .num p x :: y :: l, js, h => by cases h
  | .var k :: .num p x :: l, js, h => by cases h
  | .var k :: .var j :: l, js, h => by
    simp only [varsOf] at h
    split at h
    · rename_i r hr
      split at hr
      · rename_i r' hr'
        cases hr; cases h
        simp only [codeFA, faU0, faU3, varsOf_code hr', codeOf, codeU]
      · cases hr
    · cases h
def codeFacts (m : Int) : List Int → PC → PC
  | x :: y :: l, pc => (.user 0 [x], true) :: (.user 3 [x, m], false) :: (.user 0 [y], true) :: (.user 3 [y, m], false) :: codeFacts m l pc
  | _, pc => pc
theorem codeFacts_ok {η : Env} {m : Int} : ∀ {js : List Int} {pc : PC}, codeOf η m js = 0 → pc.holds η → (codeFacts m js pc).holds η
  | [], pc, _, h => h
  | [x], pc, _, h => h
  | x :: y :: l, pc, hc, h => by
    simp only [codeOf, codeU] at hc
    cases h1 : (η.u 0 [x] && η.u 0 [y]) with
    | false => rw [h1] at hc; cases hc
    | true =>
      rw [h1] at hc
      cases h2 : (η.u 3 [x, m] || η.u 3 [y, m]) with
      | true => rw [h2] at hc; cases hc
      | false =>
        rw [h2] at hc
        have ih := codeFacts_ok (js := l) hc h
        simp only [Bool.and_eq_true] at h1
        simp only [Bool.or_eq_false_iff] at h2
        intro z hz
        simp only [codeFacts, List.mem_cons] at hz
        rcases hz with rfl | rfl | rfl | rfl | hz
        · exact h1.1
        · exact h2.1
        · exact h1.2
        · exact h2.2
        · exact ih z hz
def faAll (s : Sub) : List Nat → Option (List FA)
  | [] => some []
  | k :: l => match nth s.2 k, faAll s l with
    | some a, some m => some (a :: m)
    | _, _ => none

theorem fit_u0 {η η' : Env} {s : Sub} (hg : GoodF η) (hM : Fit η s η') {k : Nat} {a : FA} (h : nth s.2 k = some a) : η'.u 0 [.ofNat k] = faU0 η a := by
  rw [hM.gd.whole, hM.flt k a h]
  cases a with
  | var j => exact (hg.whole j).symm
  | num p x =>
    have := hM.ok k _ h
    simp only [FA.Ok] at this
    simp only [FA.fx, this.1, Option.isSome_some, faU0]
theorem fit_u3 {η η' : Env} {s : Sub} (hg : GoodF η) (hM : Fit η s η') {k : Nat} {a : FA} (h : nth s.2 k = some a) (m : Int) : η'.u 3 [.ofNat k, m] = faU3 η m a := by
  rw [hM.gd.size, hM.val k a h]
  cases a with
  | var j => exact (hg.size j m).symm
  | num p x => rfl
theorem fit_code {η η' : Env} {s : Sub} (hg : GoodF η) (hM : Fit η s η') (m : Int) : ∀ {ks : List Nat} {as : List FA}, faAll s ks = some as → codeOf η' m (kInts ks) = codeFA η m as
  | [], as, h => by cases h; rfl
  | [k], as, h => by
    simp only [faAll] at h
    split at h
    · rename_i a r h1 h2; cases h2; cases h; rfl
    · cases h
  | k :: j :: ks, as, h => by
    simp only [faAll] at h
    split at h
    · rename_i a r h1 h2
      split at h2
      · rename_i b q h3 h4
        cases h2; cases h
        simp only [codeOf, kInts, codeU, codeFA, fit_u0 hg hM h1, fit_u0 hg hM h3, fit_u3 hg hM h1, fit_u3 hg hM h3]
        rw [← fit_code hg hM m h4]
      · cases h2
    · cases h

/-- A summary, with the arguments filled in. -/
def gF (s : Sub) : Prt → PC → Tree (Sv × PC)
  | .leaf r, pc => match subVo s r with
    | some v => .leaf (v, pc)
    | none => .fail
  | .small m ps t f, pc => match subPs s ps with
    | none => .fail
    | some qs => match smallDec pc m qs with
      | some true => gF s t pc
      | some false => gF s f pc
      | none => branch DB pc (.at_ false (.small m qs)) fun b pc' => match b with
        | true => gF s t (smallFacts pc m qs pc')
        | false => gF s f pc'
  | .lt p q t f, pc => match subPo s p, subPo s q with
    | some a, some b => branch DB pc (mkLt DB pc a b) fun b pc => match b with
      | true => gF s t pc
      | false => gF s f pc
    | _, _ => .fail
  | .eq p t f, pc => match subPo s p with
    | some a => branch DB pc (mkEq DB pc a []) fun b pc => match b with
      | true => gF s t pc
      | false => gF s f pc
    | none => .fail
  | .code m ks a b c, pc => match faAll s ks with
    | none => .fail
    | some as => match scanC pc m as with
      | some 0 => gF s a pc
      | some 1 => gF s b pc
      | some _ => gF s c pc
      | none => match varsOf as with
        | none => .fail
        | some js => branch DB pc (.at_ false (.user 6 (m :: js))) fun t pc => match t with
          | false => gF s a (codeFacts m js pc)
          | true => branch DB pc (.at_ false (.user 7 (m :: js))) fun t pc => match t with
            | true => gF s b pc
            | false => gF s c pc

theorem gF_ok {η η' : Env} {s : Sub} (hg : GoodF η) (hM : Fit η s η') : ∀ (T : Prt) (pc : PC) (r : Sv) (pc' : PC), (gF s T pc).at_ η = some (r, pc') → pc.holds η → pc'.holds η ∧ ∀ E E', r.den η E = (T.at_ η').den η' E' := by
  have hD : DB.Ok η := DB_ok hg.toGood
  intro T
  induction T with
  | leaf v =>
    intro pc r pc' h hpc
    simp only [gF] at h
    split at h
    · rename_i u hu
      simp only [Tree.at_, Option.some.injEq, Prod.mk.injEq] at h
      obtain ⟨rfl, rfl⟩ := h
      exact ⟨hpc, fun E E' => subVo_ok hM hu⟩
    · cases h
  | small m ps t f iht ihf =>
    intro pc r pc' h hpc
    simp only [gF] at h
    split at h
    · cases h
    · rename_i qs hqs
      have e := subPs_ok hM m hqs
      simp only [Prt.at_, e]
      split at h
      · rename_i hd; rw [smallDec_ok hg hpc hd]; exact iht pc r pc' h hpc
      · rename_i hd; rw [smallDec_ok hg hpc hd]; exact ihf pc r pc' h hpc
      · obtain ⟨pc1, h1, h2⟩ := at_branch hD hpc h
        simp only [Bx.den, Atom.den, Bool.xor_false] at h2
        cases ha : allS η m qs with
        | true =>
          rw [ha] at h2
          exact iht _ r pc' h2 (smallFacts_ok hg hpc ha h1)
        | false =>
          rw [ha] at h2
          exact ihf _ r pc' h2 h1
  | lt p q t f iht ihf =>
    intro pc r pc' h hpc
    simp only [gF] at h
    split at h
    · rename_i a b ha hb
      obtain ⟨pc1, h1, h2⟩ := at_branch hD hpc h
      rw [mkLt_den hD hpc] at h2
      simp only [Prt.at_, subPo_ok hM ha, subPo_ok hM hb]
      cases hc : decide (wr (evP η.i a) < wr (evP η.i b)) with
      | true => rw [hc] at h2; exact iht _ r pc' h2 h1
      | false => rw [hc] at h2; exact ihf _ r pc' h2 h1
    · cases h
  | eq p t f iht ihf =>
    intro pc r pc' h hpc
    simp only [gF] at h
    split at h
    · rename_i a ha
      obtain ⟨pc1, h1, h2⟩ := at_branch hD hpc h
      have e0 : wr (evP η.i []) = 0 := by simp [evP, wr_eq]
      rw [mkEq_den hD hpc, e0] at h2
      simp only [Prt.at_, subPo_ok hM ha]
      cases hc : decide (wr (evP η.i a) = 0) with
      | true => rw [hc] at h2; exact iht _ r pc' h2 h1
      | false => rw [hc] at h2; exact ihf _ r pc' h2 h1
    · cases h
  | code m ks a b c iha ihb ihc =>
    intro pc r pc' h hpc
    simp only [gF] at h
    split at h
    · cases h
    · rename_i as has
      have e := fit_code hg hM m has
      simp only [Prt.at_, e]
      split at h
      · rename_i hs; rw [scanC_ok hg hpc hs]; exact iha _ r pc' h hpc
      · rename_i hs; rw [scanC_ok hg hpc hs]; exact ihb _ r pc' h hpc
      · rename_i n h0 h1 hs
        rw [scanC_ok hg hpc hs]
        split
        · exact (h0 rfl).elim
        · exact (h1 rfl).elim
        · exact ihc _ r pc' h hpc
      · split at h
        · cases h
        · rename_i js hjs
          have ej := varsOf_code (η := η) (m := m) hjs
          rw [ej]
          obtain ⟨pc1, h1, h2⟩ := at_branch hD hpc h
          simp only [Bx.den, Atom.den, Bool.xor_false, hg.code6] at h2
          cases hc : decide (codeOf η m js ≠ 0) with
          | false =>
            rw [hc] at h2
            have hc := of_decide_eq_false hc
            have hc : codeOf η m js = 0 := by omega
            rw [hc]
            exact iha _ r pc' h2 (codeFacts_ok hc h1)
          | true =>
            rw [hc] at h2
            have hc := of_decide_eq_true hc
            obtain ⟨pc2, h3, h4⟩ := at_branch hD h1 h2
            simp only [Bx.den, Atom.den, Bool.xor_false, hg.code7] at h4
            cases hc' : decide (codeOf η m js = 1) with
            | true =>
              rw [hc'] at h4
              rw [of_decide_eq_true hc']
              exact ihb _ r pc' h4 h3
            | false =>
              rw [hc'] at h4
              have hc' := of_decide_eq_false hc'
              split
              · contradiction
              · contradiction
              · exact ihc _ r pc' h4 h3

/-! ## What is shown of a summary -/
def idP : Nat → Nat → List Poly
  | _, 0 => []
  | v, n + 1 => pvar v :: idP (v + 1) n
def idF : Nat → Nat → List FA
  | _, 0 => []
  | v, n + 1 => .var v :: idF (v + 1) n
def idSub (sh : Shq) : Sub := (idP 0 (nIq sh), idF 0 (nFq sh))
theorem idP_nth : ∀ (n v j : Nat) (p : Poly), nth (idP v n) j = some p → p = pvar (v + j)
  | 0, v, j, p, h => by simp [idP, nth_eq] at h
  | n + 1, v, 0, p, h => by cases h; rfl
  | n + 1, v, j + 1, p, h => by
    have := idP_nth n (v + 1) j p (by rw [nth_eq] at h ⊢; simpa [idP] using h)
    rw [this, show v + 1 + j = v + (j + 1) by omega]
theorem idF_nth : ∀ (n v j : Nat) (a : FA), nth (idF v n) j = some a → a = .var (v + j)
  | 0, v, j, p, h => by simp [idF, nth_eq] at h
  | n + 1, v, 0, p, h => by cases h; rfl
  | n + 1, v, j + 1, p, h => by
    have := idF_nth n (v + 1) j p (by rw [nth_eq] at h ⊢; simpa [idF] using h)
    rw [this, show v + 1 + j = v + (j + 1) by omega]
theorem fit_id {η : Env} (hg : GoodF η) (sh : Shq) : Fit η (idSub sh) η where
  gd := hg
  int := fun v p h _ => by have := idP_nth _ _ _ _ h; rw [this, evP_pvar, Nat.zero_add]
  flt := fun k a h => by have := idF_nth _ _ _ _ h; rw [this, Nat.zero_add]; rfl
  val := fun k a h => by have := idF_nth _ _ _ _ h; rw [this, Nat.zero_add]; rfl
  ok := fun k a h => by have := idF_nth _ _ _ _ h; rw [this]; trivial

/-- Values for the variables of a summary: those of the arguments. -/
def fitF (η : Env) (s : Sub) (k : Nat) : Nat := match nth s.2 k with
  | some a => a.fx.den η
  | none => 0
def fitI (η : Env) (s : Sub) (v : Nat) : Int := match nth s.1 v with
  | some p => evP η.i p
  | none => 0
def fitEnv (η : Env) (s : Sub) : Env := mkEnv (fitF η s) (fitI η s) (fun _ _ => false)
theorem fitEnv_f (η : Env) (s : Sub) {k : Nat} {a : FA} (h : nth s.2 k = some a) : (fitEnv η s).f k = a.fx.den η := by
  show fitF η s k = _
  rw [fitF, h]
theorem fitEnv_i (η : Env) (s : Sub) {v : Nat} {p : Poly} (h : nth s.1 v = some p) (hv : v < 10000) : wr ((fitEnv η s).i v) = wr (evP η.i p) := by
  have hv : ¬ 10000 ≤ v := by omega
  have e : (fitEnv η s).i v = wr (fitI η s v) := if_neg hv
  rw [e, wr_wr, fitI, h]
theorem fitEnv_gd {η : Env} (hg : GoodF η) {s : Sub} (hok : ∀ k a, nth s.2 k = some a → a.Ok η) : GoodF (fitEnv η s) := by
  refine mkEnv_good (fun k => ?_) _ _
  unfold fitF
  split
  · rename_i a ha
    have := hok k a ha
    cases a with
    | var j => exact hg.lt64 j
    | num p x => exact this.2.2
  · omega
theorem fit_val {η η' : Env} (hg : GoodF η) (hgd : GoodF η') {k : Nat} {a : FA} (hf : η'.f k = a.fx.den η) (hok : a.Ok η) : η'.i (vF k) = a.val η := by
  cases a with
  | var j =>
    simp only [FA.fx, Fx.den] at hf
    simp only [FA.val]
    cases hw : wI (η.f j) with
    | none =>
      rw [hgd.val0 k (by rw [hf]; exact hw), hg.val0 j hw]
    | some n =>
      rw [hgd.val k n (by rw [hf]; exact hw), hg.val j n hw]
  | num p x =>
    obtain ⟨q1, q2, _⟩ := hok
    simp only [FA.fx] at hf
    have e1 := hgd.val k _ (by rw [hf]; exact q1)
    simp only [FA.val]
    rw [e1]
    unfold clamp
    rw [if_neg (by omega), if_neg (by omega)]
theorem fit_env {η : Env} (hg : GoodF η) {s : Sub} (hok : ∀ a ∈ s.2, a.Ok η) : Fit η s (fitEnv η s) := by
  have hok' : ∀ k a, nth s.2 k = some a → a.Ok η := fun k a h => hok a (by rw [nth_eq] at h; exact List.mem_of_getElem? h)
  have hgd : GoodF (fitEnv η s) := fitEnv_gd hg hok'
  exact ⟨hgd, fun v p h hv => fitEnv_i η s h hv, fun k a h => fitEnv_f η s h, fun k a h => fit_val hg hgd (fitEnv_f η s h) (hok' k a h), hok'⟩

def fsOk (sh : Shq) (T : Prt) (r : Sv × St) : Bool := match gF (idSub sh) T r.2.pc with
  | .leaf x => svEq r.1 x.1 && below 0 r.1
  | _ => false

/-- A run, its value, and what is known behind it. -/
def stP (pc : PC) : St := ⟨.nil, .nil, 0, 0, pc⟩
theorem run_sumP {C : Cx} {P : Program} {η : Env} (hC : C.Ok P η) {n : Nat} {f : FuncId} {fi : FI} {args : List Sv} {r : Sv × St} {pc : PC} (hf : FI.Ok P f fi) (hpc : pc.holds η) (h : (callE C (drawX C) n fi args (stP pc)).at_ η = some r) (hb : below 0 r.1 = true)
    (w : World) {vs : List Value} (hv : denArgs η E0 args = some vs) : ∃ v, r.1.den η E0 = some v ∧ r.2.pc.holds η ∧ Calls P f vs.toArray w fun e w' => e = .returned v ∧ Below w.heap.size w w' := by
  have hc := call_run hC n fi args (stP pc) r h f hf hpc (Nat.le_refl _) E0 w.heap.size w w vs (hrel0 η w) (Below.refl _ _) hv
  have hd : ∀ E', r.1.den η E' = r.1.den η E0 := fun E' => Sv.den_agree (fun i hi => absurd hi (Nat.not_lt_zero _)) hb
  obtain ⟨_, _, v, E', _, e1, _, _, _, e6, _⟩ := Calls.exists hc
  rw [hd] at e1
  refine ⟨v, e1, e6, hc.mono ?_⟩
  rintro e w' ⟨v', E'', rfl, e1', _, _, e4, _⟩
  rw [hd, e1] at e1'
  cases e1'
  exact ⟨rfl, e4⟩

theorem getA_len {η : Env} (hg : GoodF η) {pc : PC} (hpc : pc.holds η) : ∀ {sh : Shq} {l : List Sv} {s : Sub}, getA pc sh l = some s → s.1.length = nIq sh := by
  intro sh
  induction sh with
  | nil => intro l s h; obtain ⟨_, rfl⟩ := getA_nil h; rfl
  | cons k sh ih =>
    intro l s h
    obtain ⟨b, ks⟩ := k
    obtain ⟨cs, l', r, q, rfl, h1, h2, rfl, _⟩ := getA_cons h
    simp [nIq, (getL_len hg hpc h1).1, ih h2]

/-- What a summary takes for granted: numbers that are at most so large. -/
abbrev Need := List (Int × List Poly)
def needB (s : Sub) (pc : PC) : Need → Bool
  | [] => true
  | (m, ps) :: N => (match subPs s ps with
    | some qs => (match smallDec pc m qs with
      | some b => b
      | none => false)
    | none => false) && needB s pc N
def needPc : Need → PC → PC
  | [], pc => pc
  | (m, ps) :: N, pc => smallFacts [] m ps ((.small m ps, true) :: needPc N pc)
theorem need_ok {η η' : Env} {s : Sub} (hg : GoodF η) (hM : Fit η s η') {pc : PC} (hpc : pc.holds η) : ∀ {N : Need}, needB s pc N = true → (needPc N []).holds η'
  | [], _ => fun x hx => by cases hx
  | (m, ps) :: N, h => by
    simp only [needB, Bool.and_eq_true] at h
    obtain ⟨h1, h2⟩ := h
    have ih := need_ok hg hM hpc (N := N) h2
    split at h1
    · rename_i qs hqs
      split at h1
      · rename_i b hb
        subst h1
        have e := smallDec_ok hg hpc hb
        rw [← subPs_ok hM m hqs] at e
        refine smallFacts_ok hM.gd (fun x hx => by cases hx) e ?_
        intro y hy
        cases hy with
        | head => exact e
        | tail _ hy => exact ih y hy
      · cases h1
    · cases h1
def gFN (sh : Shq) (N : Need) (T : Prt) : List Sv → PC → Tree (Sv × PC) := fun l pc => match getA pc sh l with
  | some s => bif needB s pc N then gF s T pc else .fail
  | none => .fail

theorem fs_sumN {P : Program} {C : Cx} (hC : ∀ η, GoodF η → C.Ok P η) {n : Nat} {f : FuncId} {fi : FI} {sh : Shq} {N : Need} {T : Prt} (hf : FI.Ok P f fi)
    (h : ((callE C (drawX C) n fi (canA 0 0 sh) (stP (needPc N []))).all (fsOk sh T)) = true) (hsz : Nat.ble (nIq sh) 10000 = true) {η : Env} (hg : GoodF η) : SumOk P η f (gFN sh N T) := by
  intro svs pc r pc' hr hpc
  unfold gFN at hr
  split at hr
  · rename_i s hs
    cases hN : needB s pc N with
    | false => rw [hN] at hr; cases hr
    | true =>
      rw [hN] at hr
      have hok := getA_ok hg hpc hs
      have hM := fit_env hg hok
      obtain ⟨q1, q2⟩ := gF_ok hg hM T pc r pc' hr hpc
      refine ⟨q1, fun E vs w hv => ?_⟩
      obtain ⟨x, hx, hxr⟩ := Tree.all_at (η := fitEnv η s) h
      simp only [fsOk] at hxr
      split at hxr
      · rename_i y hy
        simp only [Bool.and_eq_true] at hxr
        have hlen : ∀ j p, nth s.1 j = some p → j < 10000 → wr ((fitEnv η s).i (0 + j)) = wr (evP η.i p) := fun j p hp hj => by rw [Nat.zero_add]; exact hM.int j p hp hj
        have hlen' : ∀ j p, nth s.1 j = some p → j < 10000 := by
          intro j p hp
          rw [nth_eq] at hp
          have h1 := (List.getElem?_eq_some_iff.1 hp).1
          have h2 : s.1.length = nIq sh := getA_len hg hpc hs
          have h3 := Nat.le_of_ble_eq_true hsz
          omega
        have hargs := canA_den (η' := fitEnv η s) (E := E) (E' := E0) hg hpc sh svs s 0 0 vs hs hv (fun j p hp => hlen j p hp (hlen' j p hp)) (fun j a ha => by rw [Nat.zero_add]; exact hM.flt j a ha)
        obtain ⟨v, e1, e2, e3⟩ := run_sumP (hC _ hM.gd) hf (need_ok hg hM hpc hN) hx hxr.2 w hargs
        obtain ⟨_, g2⟩ := gF_ok hM.gd (fit_id hM.gd sh) T x.2.pc y.1 y.2 (by rw [hy]; rfl) e2
        refine ⟨v, ?_, .inr ⟨run_callFunc hf _ w, e3⟩⟩
        rw [q2 E E0, ← g2 E0 E0, ← svEq_iff hxr.1]; exact e1
      · cases hxr
  · cases hr

/-- Two summaries, the second where the first fails. -/
def gOr (g h : List Sv → PC → Tree (Sv × PC)) : List Sv → PC → Tree (Sv × PC) := fun l pc => match g l pc with
  | .fail => h l pc
  | t => t
theorem gOr_ok {P : Program} {η : Env} {f : FuncId} {g h : List Sv → PC → Tree (Sv × PC)} (hg : SumOk P η f g) (hh : SumOk P η f h) : SumOk P η f (gOr g h) := by
  intro svs pc r pc' hr hpc
  unfold gOr at hr
  split at hr
  · exact hh svs pc r pc' hr hpc
  · exact hg svs pc r pc' hr hpc

end
end Go.Ex


namespace Go.Ex
open Go Go.RowKit Go.WideShapes Go.ChangeShapes
noncomputable section

/-! ## The row's last step -/
section
variable {H : Type} {enc : TypeId × Value → H} {P : Program}
theorem post_of_below {f : Func} {s : ChangeSpec} {apart fresh handsOn again : Bool} {W W' : World} {args : Array Value} {v : Value} {ds gs : List (DataW H)} {before pa pv : List MemPlace}
    (hW : DataW.Whole enc P f.params.toList s.vars apart W args.toList ds gs before)
    (hres : ∀ (b : Nat) (sp : Nat → Bool) (hd : Bool), DataW.TrodAll enc P W' b sp hd f.resultTypes.toList (v.resultList f.resultTypes.size) (s.fn H (ds ++ gs)).results [])
    (hargs : ∀ sp : Nat → Bool, (∀ p ∈ before, sp p.block = true) → DataW.TrodAll enc P W' 0 sp true f.params.toList args.toList (s.fn H (ds ++ gs)).args pa)
    (hvars : ∀ sp : Nat → Bool, (∀ p ∈ before, sp p.block = true) → DataW.TrodVars enc P W' sp s.vars (s.fn H (ds ++ gs)).vars pv)
    (hps : before = pa ++ pv) (hb : Below W.heap.size W W')
    (hok : ∀ (j : Nat) (t : TypeId) (r : Value), f.resultTypes[j]? = some t → (v.resultList f.resultTypes.size)[j]? = some r → Value.okWide P W' .any 0 t r) :
    s.post enc P f apart fresh handsOn again W args v W' := by
  have hlt : ∀ p ∈ before, p.block < W.heap.size := fun p hp => hW.lt p hp
  have hold : ∀ p ∈ before, (fun b => decide (b < W.heap.size)) p.block = true := fun p hp => by simpa using hlt p hp
  refine ⟨ds, gs, before, [], pa, pv, hW, hres _ _ _, hargs _ hold, hvars _ hold, World.keptBut_mono (fun p hp => ⟨hp, ?_⟩) (hb.frame (· ∈ before)), fun _ => ?_⟩
  · rw [hps, List.mem_append] at hp
    exact Or.inr hp
  · obtain ⟨_, _, _, _, _, hz, hn⟩ := hW
    refine ⟨hok, _, _, ([] ++ pa) ++ pv, ⟨[] ++ pa, pv, trodAll_append (hargs _ (fun _ _ => rfl)) (hres _ _ _), hvars _ (fun _ _ => rfl), rfl, ?_, ?_⟩, ?_⟩
    · intro b off hp
      have hin : MemPlace.cell b off ∈ before := by rw [hps]; simpa using hp
      rw [hb.frozen (hlt _ hin)]
      exact hz b off hin
    · intro ha
      have := hn ha
      rw [hps] at this
      simpa using this
    · intro p hp _
      rw [hps]
      simpa using hp
end

/-! ## Types of numbers alone -/
def flatFs (P : Program) (F : TypeId → Option (List AK)) : List Field → Nat → Option (List AK)
  | [], _ => some []
  | f :: l, off => bif Nat.beq f.offset off then (match F f.type with
    | some ks => bif Nat.beq ks.length (P.cellsOf f.type) then (match flatFs P F l (off + ks.length) with
      | some r => some (ks ++ r)
      | none => none) else none
    | none => none) else none
def flatT (P : Program) : Nat → TypeId → Option (List AK)
  | 0, _ => none
  | n + 1, t => match P.underlying t with
    | some (.int .i64) => some [.i]
    | some (.float .f64) => some [.f]
    | some (.struct fs) => match flatFs P (flatT P n) fs.toList 0 with
      | some ks => bif Nat.beq ks.length (P.cellsOf t) then some ks else none
      | none => none
    | some (.array m e) => match flatT P n e with
      | some ks => bif Nat.beq ks.length (P.cellsOf e) && Nat.beq (m * ks.length) (P.cellsOf t) then some (List.replicate m ks).flatten else none
      | none => none
    | _ => none

def LeafOk : AK → Value → Prop
  | .i, c => ∃ n, c = .int .i64 n ∧ -9223372036854775808 ≤ n ∧ n ≤ 9223372036854775807
  | .f, c => ∃ b, c = .float .f64 b ∧ b < 18446744073709551616
  | _, _ => False
def LeafsOk : List AK → List Value → Prop
  | [], [] => True
  | k :: ks, c :: cs => LeafOk k c ∧ LeafsOk ks cs
  | _, _ => False
theorem LeafsOk.append : ∀ {k1 k2 : List AK} {c1 c2 : List Value}, LeafsOk k1 c1 → LeafsOk k2 c2 → LeafsOk (k1 ++ k2) (c1 ++ c2)
  | [], _, [], _, _, h => h
  | [], _, _ :: _, _, h, _ => h.elim
  | _ :: _, _, [], _, h, _ => h.elim
  | _ :: _, _, _ :: _, _, h, h' => ⟨h.1, LeafsOk.append h.2 h'⟩
theorem LeafsOk.len : ∀ {k : List AK} {c : List Value}, LeafsOk k c → c.length = k.length
  | [], [], _ => rfl
  | [], _ :: _, h => h.elim
  | _ :: _, [], h => h.elim
  | _ :: _, _ :: _, h => by simp [LeafsOk.len h.2]

theorem mapM_some {α β : Type} {f : α → Option β} : ∀ {l : List α} {xs : List β}, l.mapM f = some xs → ∀ a ∈ l, ∃ y ∈ xs, f a = some y
  | [], xs, _, a, ha => by cases ha
  | b :: l, xs, h, a, ha => by
    simp only [List.mapM_cons, Option.bind_eq_bind, Option.bind_eq_some_iff, Option.pure_def, Option.some.injEq] at h
    obtain ⟨y, h1, ys, h2, rfl⟩ := h
    cases ha with
    | head => exact ⟨y, List.mem_cons_self .., h1⟩
    | tail _ ha =>
      obtain ⟨z, hz, hf⟩ := mapM_some h2 a ha
      exact ⟨z, List.mem_cons_of_mem _ hz, hf⟩
theorem mapM_of {α β : Type} {f g : α → Option β} : ∀ {l : List α} {xs : List β}, l.mapM f = some xs → (∀ a ∈ l, ∀ y, f a = some y → g a = some y) → l.mapM g = some xs
  | [], xs, h, _ => by simpa using h
  | b :: l, xs, h, hg => by
    simp only [List.mapM_cons, Option.bind_eq_bind, Option.bind_eq_some_iff, Option.pure_def, Option.some.injEq] at h ⊢
    obtain ⟨y, h1, ys, h2, rfl⟩ := h
    exact ⟨y, hg b (List.mem_cons_self ..) y h1, ys, mapM_of h2 (fun a ha => hg a (List.mem_cons_of_mem _ ha)), rfl⟩
theorem mapM_back {α β : Type} {f : α → Option β} : ∀ {l : List α} {xs : List β}, l.mapM f = some xs → ∀ y ∈ xs, ∃ a ∈ l, f a = some y
  | [], xs, h, y, hy => by
    simp at h; subst h; cases hy
  | b :: l, xs, h, y, hy => by
    simp only [List.mapM_cons, Option.bind_eq_bind, Option.bind_eq_some_iff, Option.pure_def, Option.some.injEq] at h
    obtain ⟨z, h1, ys, h2, rfl⟩ := h
    cases hy with
    | head => exact ⟨b, List.mem_cons_self .., h1⟩
    | tail _ hy =>
      obtain ⟨a, ha, hf⟩ := mapM_back h2 y hy
      exact ⟨a, List.mem_cons_of_mem _ ha, hf⟩

section
variable {H : Type} {enc : TypeId × Value → H} {P : Program}
theorem trod_struct_eq {w : World} {b : Nat} {sp : Nat → Bool} {hd : Bool} {n : Nat} {t : TypeId} {fs : Array Field} {cs : List Value} (ht : P.underlying t = some (.struct fs)) :
    DataW.trod enc P w b sp hd (n + 1) t cs = if cs.length = P.cellsOf t then (fs.toList.mapM fun f => DataW.trod enc P w b sp hd n f.type ((cs.drop f.offset).take (P.cellsOf f.type))).map fun xs => (.agg (xs.map (·.1)), xs.flatMap (·.2)) else none := by
  conv => lhs; unfold DataW.trod
  rw [ht]
theorem trod_array_eq {w : World} {b : Nat} {sp : Nat → Bool} {hd : Bool} {n : Nat} {t e : TypeId} {m : Nat} {cs : List Value} (ht : P.underlying t = some (.array m e)) :
    DataW.trod enc P w b sp hd (n + 1) t cs = if cs.length = P.cellsOf t then ((List.range m).mapM fun i => DataW.trod enc P w b sp hd n e ((cs.drop (i * P.cellsOf e)).take (P.cellsOf e))).map fun xs => (.agg (xs.map (·.1)), xs.flatMap (·.2)) else none := by
  conv => lhs; unfold DataW.trod
  rw [ht]

theorem flatFs_leafs {F : TypeId → Option (List AK)} {G : TypeId → List Value → Option (DataW H × List MemPlace)} (hG : ∀ t ks cs x, F t = some ks → G t cs = some x → LeafsOk ks cs) (cs : List Value) :
    ∀ (l : List Field) (off : Nat) (ks : List AK) (xs : List (DataW H × List MemPlace)), flatFs P F l off = some ks → (l.mapM fun f => G f.type ((cs.drop f.offset).take (P.cellsOf f.type))) = some xs → cs.length = off + ks.length → LeafsOk ks (cs.drop off)
  | [], off, ks, xs, h, _, hl => by
    cases h
    rw [List.drop_eq_nil_of_le (by simp at hl; omega)]
    trivial
  | f :: l, off, ks, xs, h, hm, hl => by
    simp only [flatFs] at h
    cases ho : Nat.beq f.offset off with
    | false => rw [ho] at h; cases h
    | true =>
      rw [ho] at h
      have ho := Nat.eq_of_beq_eq_true ho
      simp only [cond_true] at h
      split at h
      · rename_i k1 hk
        cases hc : Nat.beq k1.length (P.cellsOf f.type) with
        | false => rw [hc] at h; cases h
        | true =>
          rw [hc] at h
          have hc := Nat.eq_of_beq_eq_true hc
          simp only [cond_true] at h
          split at h
          · rename_i r hr
            cases h
            simp only [List.mapM_cons, Option.bind_eq_bind, Option.bind_eq_some_iff, Option.pure_def, Option.some.injEq] at hm
            obtain ⟨y, h1, ys, h2, rfl⟩ := hm
            have a1 := hG _ _ _ _ hk h1
            have a2 := flatFs_leafs hG cs l (off + k1.length) r ys hr h2 (by rw [hl, List.length_append]; omega)
            rw [ho, ← hc] at a1
            have e : cs.drop off = (cs.drop off).take k1.length ++ cs.drop (off + k1.length) := by
              rw [← List.drop_drop, List.take_append_drop]
            rw [e]
            exact a1.append a2
          · cases h
      · cases h

theorem flatFs_mem {F : TypeId → Option (List AK)} : ∀ {l : List Field} {off : Nat} {ks : List AK}, flatFs P F l off = some ks → ∀ f ∈ l, ∃ k1, F f.type = some k1
  | [], _, _, _, f, hf => by cases hf
  | g :: l, off, ks, h, f, hf => by
    simp only [flatFs] at h
    cases ho : Nat.beq g.offset off with
    | false => rw [ho] at h; cases h
    | true =>
      rw [ho] at h
      simp only [cond_true] at h
      split at h
      · rename_i k1 hk
        cases hc : Nat.beq k1.length (P.cellsOf g.type) with
        | false => rw [hc] at h; cases h
        | true =>
          rw [hc] at h
          simp only [cond_true] at h
          split at h
          · rename_i r hr
            rcases List.mem_cons.1 hf with rfl | hf
            · exact ⟨k1, hk⟩
            · exact flatFs_mem hr f hf
          · cases h
      · cases h

theorem range_leafs {ks : List AK} {G : List Value → Option (DataW H × List MemPlace)} {c : Nat} (hc : ks.length = c) (hG : ∀ cs x, G cs = some x → LeafsOk ks cs) (cs : List Value) :
    ∀ (n s : Nat) (xs : List (DataW H × List MemPlace)), ((List.range' s n).mapM fun i => G ((cs.drop (i * c)).take c)) = some xs → cs.length = (s + n) * c → LeafsOk (List.replicate n ks).flatten (cs.drop (s * c))
  | 0, s, xs, _, hl => by
    rw [List.drop_eq_nil_of_le (by rw [hl]; simp)]
    trivial
  | n + 1, s, xs, h, hl => by
    simp only [List.range'_succ, List.mapM_cons, Option.bind_eq_bind, Option.bind_eq_some_iff, Option.pure_def, Option.some.injEq] at h
    obtain ⟨y, h1, ys, h2, rfl⟩ := h
    have a1 := hG _ _ h1
    have a2 := range_leafs hc hG cs n (s + 1) ys h2 (by rw [hl]; congr 1; omega)
    have e : cs.drop (s * c) = (cs.drop (s * c)).take c ++ cs.drop ((s + 1) * c) := by
      rw [Nat.add_mul, Nat.one_mul, ← List.drop_drop, List.take_append_drop]
    rw [e, List.replicate_succ, List.flatten_cons]
    exact a1.append a2

theorem flat_spec {w : World} {b : Nat} {sp : Nat → Bool} {hd : Bool} : ∀ (n : Nat) (t : TypeId) (ks : List AK) (fuel : Nat) (cs : List Value) (x : DataW H × List MemPlace), flatT P n t = some ks → DataW.trod enc P w b sp hd fuel t cs = some x →
    LeafsOk ks cs ∧ x.2 = [] ∧ ∀ w' b' sp' hd', DataW.trod enc P w' b' sp' hd' fuel t cs = some x
  | 0, t, ks, fuel, cs, x, h, _ => by cases h
  | n + 1, t, ks, fuel, cs, x, h, hx => by
    simp only [flatT] at h
    split at h
    · rename_i hu
      cases h
      obtain ⟨v, rfl, rfl, hw⟩ := DataW.trod_int hu hx
      refine ⟨?_, rfl, fun w' b' sp' hd' => ?_⟩
      · simp only [Lit.wf, Bool.and_eq_true, decide_eq_true_eq] at hw
        have e1 : IntKind.i64.min = -9223372036854775808 := by decide
        have e2 : IntKind.i64.max = 9223372036854775807 := by decide
        rw [e1, e2] at hw
        exact ⟨⟨v, rfl, hw.1, hw.2⟩, trivial⟩
      · cases fuel with
        | zero => simp [DataW.trod] at hx
        | succ m => simp [DataW.trod, hu, hw]
    · rename_i hu
      cases h
      cases fuel with
      | zero => simp [DataW.trod] at hx
      | succ m =>
        have key : ∃ v, cs = [.float .f64 v] ∧ x = (.lit (.float .f64 v), []) ∧ (Lit.float .f64 v).wf = true := by
          unfold DataW.trod at hx
          rw [hu] at hx
          split at hx <;> simp_all
        obtain ⟨v, rfl, rfl, hw⟩ := key
        refine ⟨?_, rfl, fun w' b' sp' hd' => ?_⟩
        · simp only [Lit.wf, decide_eq_true_eq] at hw
          exact ⟨⟨v, rfl, hw⟩, trivial⟩
        · simp [DataW.trod, hu, hw]
    · rename_i fs hu
      split at h
      · rename_i ks' hf
        cases hc : Nat.beq ks'.length (P.cellsOf t) with
        | false => rw [hc] at h; cases h
        | true =>
          rw [hc] at h
          cases h
          have hc := Nat.eq_of_beq_eq_true hc
          cases fuel with
          | zero => simp [DataW.trod] at hx
          | succ m =>
            rw [trod_struct_eq hu] at hx
            split at hx
            · rename_i hlen
              simp only [Option.map_eq_some_iff] at hx
              obtain ⟨xs, hm, rfl⟩ := hx
              refine ⟨?_, ?_, fun w' b' sp' hd' => ?_⟩
              · have := flatFs_leafs (P := P) (G := fun t cs => DataW.trod enc P w b sp hd m t cs) (fun t ks cs x h1 h2 => (flat_spec n t ks m cs x h1 h2).1) cs fs.toList 0 ks xs hf hm (by rw [hlen, hc, Nat.zero_add])
                simpa using this
              · simp only [List.flatMap_eq_nil_iff]
                intro y hy
                obtain ⟨f, hf1, hf2⟩ := mapM_back hm y hy
                have := flatFs_mem hf f hf1
                obtain ⟨k1, hk1⟩ := this
                exact (flat_spec n f.type k1 m _ y hk1 hf2).2.1
              · rw [trod_struct_eq hu, if_pos hlen]
                have hm' : (fs.toList.mapM fun f => DataW.trod enc P w' b' sp' hd' m f.type ((cs.drop f.offset).take (P.cellsOf f.type))) = some xs := by
                  refine mapM_of hm fun f hf1 y hf2 => ?_
                  have := flatFs_mem hf f hf1
                  obtain ⟨k1, hk1⟩ := this
                  exact (flat_spec n f.type k1 m _ y hk1 hf2).2.2 w' b' sp' hd'
                rw [hm']; rfl
            · cases hx
      · cases h
    · rename_i m e hu
      split at h
      · rename_i k1 hk
        cases hc : (Nat.beq k1.length (P.cellsOf e) && Nat.beq (m * k1.length) (P.cellsOf t)) with
        | false => rw [hc] at h; cases h
        | true =>
          rw [hc] at h
          cases h
          simp only [Bool.and_eq_true] at hc
          have hc1 := Nat.eq_of_beq_eq_true hc.1
          have hc2 := Nat.eq_of_beq_eq_true hc.2
          cases fuel with
          | zero => simp [DataW.trod] at hx
          | succ j =>
            rw [trod_array_eq hu] at hx
            split at hx
            · rename_i hlen
              simp only [Option.map_eq_some_iff] at hx
              obtain ⟨xs, hm, rfl⟩ := hx
              refine ⟨?_, ?_, fun w' b' sp' hd' => ?_⟩
              · rw [List.range_eq_range'] at hm
                have := range_leafs (ks := k1) (G := fun cs => DataW.trod enc P w b sp hd j e cs) hc1 (fun cs x h1 => (flat_spec n e k1 j cs x hk h1).1) cs m 0 xs hm (by rw [hlen, ← hc2, hc1, Nat.zero_add])
                simpa using this
              · simp only [List.flatMap_eq_nil_iff]
                intro y hy
                obtain ⟨i, _, hf2⟩ := mapM_back hm y hy
                exact (flat_spec n e k1 j _ y hk hf2).2.1
              · rw [trod_array_eq hu, if_pos hlen]
                have hm' : ((List.range m).mapM fun i => DataW.trod enc P w' b' sp' hd' j e ((cs.drop (i * P.cellsOf e)).take (P.cellsOf e))) = some xs :=
                  mapM_of hm fun i _ y hf2 => (flat_spec n e k1 j _ y hk hf2).2.2 w' b' sp' hd'
                rw [hm']; rfl
            · cases hx
      · cases h
    · cases h
end

/-! ## The arguments of a law -/
def intsOf : List Value → List Int
  | [] => []
  | .int _ n :: l => n :: intsOf l
  | _ :: l => intsOf l
def fltsOf : List Value → List Nat
  | [] => []
  | .float _ b :: l => b :: fltsOf l
  | _ :: l => fltsOf l
theorem intsOf_append : ∀ a b : List Value, intsOf (a ++ b) = intsOf a ++ intsOf b
  | [], _ => rfl
  | c :: a, b => by cases c <;> simp [intsOf, intsOf_append a b]
theorem fltsOf_append : ∀ a b : List Value, fltsOf (a ++ b) = fltsOf a ++ fltsOf b
  | [], _ => rfl
  | c :: a, b => by cases c <;> simp [fltsOf, fltsOf_append a b]

theorem leafs_den {η : Env} {E : Emb} : ∀ {ks : List AK} {cs : List Value} (v f : Nat), LeafsOk ks cs → (∀ j a, (intsOf cs)[j]? = some a → wr (η.i (v + j)) = a) → (∀ j a, (fltsOf cs)[j]? = some a → η.f (f + j) = a) →
    denL η E (canL v f ks) = some cs ∧ (intsOf cs).length = nIs ks ∧ (fltsOf cs).length = nFs ks
  | [], [], v, f, _, _, _ => ⟨rfl, rfl, rfl⟩
  | [], _ :: _, v, f, h, _, _ => h.elim
  | _ :: _, [], v, f, h, _, _ => h.elim
  | k :: ks, c :: cs, v, f, h, hi, hf => by
    cases k with
    | i =>
      obtain ⟨n, rfl, _, _⟩ := h.1
      obtain ⟨a1, a2, a3⟩ := leafs_den (η := η) (E := E) (v + 1) f h.2 (fun j a ha => by have := hi (j + 1) a (by simpa [intsOf] using ha); rwa [show v + (j + 1) = v + 1 + j by omega] at this) (fun j a ha => hf j a (by simpa [fltsOf] using ha))
      have h0 := hi 0 n rfl
      simp only [Nat.add_zero] at h0
      exact ⟨by simp only [canL, canK, denL, Sc.den, Ix.den, evP_pvar, h0, nI1, nF1, Nat.add_zero, a1], by simp [intsOf, nIs, nI1, a2]; omega, by simp [fltsOf, nFs, nF1, a3]⟩
    | f =>
      obtain ⟨n, rfl, _⟩ := h.1
      obtain ⟨a1, a2, a3⟩ := leafs_den (η := η) (E := E) v (f + 1) h.2 (fun j a ha => hi j a (by simpa [intsOf] using ha)) (fun j a ha => by have := hf (j + 1) a (by simpa [fltsOf] using ha); rwa [show f + (j + 1) = f + 1 + j by omega] at this)
      have h0 := hf 0 n rfl
      simp only [Nat.add_zero] at h0
      exact ⟨by simp only [canL, canK, denL, Sc.den, Fx.den, h0, nI1, nF1, Nat.add_zero, a1], by simp [intsOf, nIs, nI1, a2], by simp [fltsOf, nFs, nF1, a3]; omega⟩
    | k n => exact h.1.elim
    | c => exact h.1.elim

/-- Arguments, each by its cells. -/
def argsV : List (Bool × List Value) → List Value
  | [] => []
  | (true, cs) :: l => .agg cs.toArray :: argsV l
  | (false, [c]) :: l => c :: argsV l
  | (false, _) :: l => undef :: argsV l
def cellsV : List (Bool × List Value) → List Value
  | [] => []
  | (_, cs) :: l => cs ++ cellsV l
def ArgsOk : Shq → List (Bool × List Value) → Prop
  | [], [] => True
  | (b, ks) :: s, (b', cs) :: l => b = b' ∧ LeafsOk ks cs ∧ (b = false → ks.length = 1) ∧ ArgsOk s l
  | _, _ => False
theorem args_den {η : Env} {E : Emb} : ∀ {sh : Shq} {l : List (Bool × List Value)} (v f : Nat), ArgsOk sh l → (∀ j a, (intsOf (cellsV l))[j]? = some a → wr (η.i (v + j)) = a) → (∀ j a, (fltsOf (cellsV l))[j]? = some a → η.f (f + j) = a) →
    denArgs η E (canA v f sh) = some (argsV l)
  | [], [], v, f, _, _, _ => rfl
  | [], _ :: _, v, f, h, _, _ => h.elim
  | _ :: _, [], v, f, h, _, _ => h.elim
  | (b, ks) :: s, (b', cs) :: l, v, f, h, hi, hf => by
    obtain ⟨rfl, h1, h2, h3⟩ := h
    have hi1 : ∀ j a, (intsOf cs)[j]? = some a → wr (η.i (v + j)) = a := fun j a ha => hi j a (by
      simp only [cellsV, intsOf_append]
      rw [List.getElem?_append_left (List.getElem?_eq_some_iff.1 ha).1]; exact ha)
    have hf1 : ∀ j a, (fltsOf cs)[j]? = some a → η.f (f + j) = a := fun j a ha => hf j a (by
      simp only [cellsV, fltsOf_append]
      rw [List.getElem?_append_left (List.getElem?_eq_some_iff.1 ha).1]; exact ha)
    obtain ⟨a1, a2, a3⟩ := leafs_den (η := η) (E := E) v f h1 hi1 hf1
    have ih := args_den (η := η) (E := E) (v + nIs ks) (f + nFs ks) h3 (fun j a ha => by
      have := hi (nIs ks + j) a (by
        simp only [cellsV, intsOf_append]
        rw [List.getElem?_append_right (by omega), a2, Nat.add_sub_cancel_left]; exact ha)
      rwa [← Nat.add_assoc] at this) (fun j a ha => by
      have := hf (nFs ks + j) a (by
        simp only [cellsV, fltsOf_append]
        rw [List.getElem?_append_right (by omega), a3, Nat.add_sub_cancel_left]; exact ha)
      rwa [← Nat.add_assoc] at this)
    cases b with
    | true => simp only [canA, mkArg, denArgs, Sv.den, a1, Option.map_some, ih, argsV]
    | false =>
      have hk := h2 rfl
      have hc := h1.len
      match ks, cs, hk, hc with
      | [k], [c], _, _ =>
        simp only [canL, denL] at a1
        simp only [canA, mkArg, canL, denArgs, Sv.den, argsV]
        cases hd : (canK v f k).den η E with
        | none => rw [hd] at a1; cases a1
        | some y =>
          rw [hd] at a1
          simp only [Option.some.injEq, List.cons.injEq, and_true] at a1
          subst a1
          simp only [ih]

/-- The values of a law's variables: its arguments; others as is asked. -/
def lawEnv (l : List (Bool × List Value)) (iv : Nat → Int) (uu : Nat → List Int → Bool) : Env :=
  mkEnv (fun k => (fltsOf (cellsV l))[k]?.getD 0) (fun v => (intsOf (cellsV l))[v]?.getD (iv v)) uu

theorem leafs_rng : ∀ {ks : List AK} {cs : List Value}, LeafsOk ks cs → (∀ n ∈ intsOf cs, -9223372036854775808 ≤ n ∧ n ≤ 9223372036854775807) ∧ (∀ b ∈ fltsOf cs, b < 18446744073709551616)
  | [], [], _ => ⟨fun _ h => (by cases h), fun _ h => (by cases h)⟩
  | [], _ :: _, h => h.elim
  | _ :: _, [], h => h.elim
  | k :: ks, c :: cs, h => by
    obtain ⟨a, b⟩ := leafs_rng h.2
    cases k with
    | i =>
      obtain ⟨n, rfl, h1, h2⟩ := h.1
      refine ⟨fun m hm => ?_, fun m hm => b m (by simpa [fltsOf] using hm)⟩
      simp only [intsOf, List.mem_cons] at hm
      rcases hm with rfl | hm
      · exact ⟨h1, h2⟩
      · exact a m hm
    | f =>
      obtain ⟨n, rfl, h1⟩ := h.1
      refine ⟨fun m hm => a m (by simpa [intsOf] using hm), fun m hm => ?_⟩
      simp only [fltsOf, List.mem_cons] at hm
      rcases hm with rfl | hm
      · exact h1
      · exact b m hm
    | k n => exact h.1.elim
    | c => exact h.1.elim
theorem args_rng : ∀ {sh : Shq} {l : List (Bool × List Value)}, ArgsOk sh l → (∀ n ∈ intsOf (cellsV l), -9223372036854775808 ≤ n ∧ n ≤ 9223372036854775807) ∧ (∀ b ∈ fltsOf (cellsV l), b < 18446744073709551616)
  | [], [], _ => ⟨fun _ h => (by cases h), fun _ h => (by cases h)⟩
  | [], _ :: _, h => h.elim
  | _ :: _, [], h => h.elim
  | (b, ks) :: s, (b', cs) :: l, h => by
    obtain ⟨a1, a2⟩ := leafs_rng h.2.1
    obtain ⟨b1, b2⟩ := args_rng h.2.2.2
    refine ⟨fun n hn => ?_, fun n hn => ?_⟩
    · simp only [cellsV, intsOf_append, List.mem_append] at hn
      rcases hn with hn | hn
      · exact a1 n hn
      · exact b1 n hn
    · simp only [cellsV, fltsOf_append, List.mem_append] at hn
      rcases hn with hn | hn
      · exact a2 n hn
      · exact b2 n hn

theorem lawEnv_f (l : List (Bool × List Value)) (iv : Nat → Int) (uu : Nat → List Int → Bool) (k : Nat) : (lawEnv l iv uu).f k = (fltsOf (cellsV l))[k]?.getD 0 := rfl
theorem lawEnv_i (l : List (Bool × List Value)) (iv : Nat → Int) (uu : Nat → List Int → Bool) {v : Nat} (hv : v < 10000) : (lawEnv l iv uu).i v = wr ((intsOf (cellsV l))[v]?.getD (iv v)) := by
  have hv : ¬ 10000 ≤ v := by omega
  exact if_neg hv
theorem lawEnv_good {sh : Shq} {l : List (Bool × List Value)} (h : ArgsOk sh l) (iv : Nat → Int) (uu : Nat → List Int → Bool) : GoodF (lawEnv l iv uu) := by
  refine mkEnv_good (fun k => ?_) _ _
  cases hk : (fltsOf (cellsV l))[k]? with
  | none => simp only [Option.getD_none]; omega
  | some b => simp only [Option.getD_some]; exact (args_rng h).2 b (List.mem_of_getElem? hk)

theorem lawEnv_den {sh : Shq} {l : List (Bool × List Value)} (h : ArgsOk sh l) (hn : (intsOf (cellsV l)).length ≤ 10000) (iv : Nat → Int) (uu : Nat → List Int → Bool) {E : Emb} : denArgs (lawEnv l iv uu) E (canA 0 0 sh) = some (argsV l) := by
  refine args_den 0 0 h (fun j a ha => ?_) (fun j a ha => ?_)
  · have hj := (List.getElem?_eq_some_iff.1 ha).1
    rw [Nat.zero_add, lawEnv_i _ _ _ (by omega), ha, Option.getD_some, wr_wr]
    exact wr_in ((args_rng h).1 a (List.mem_of_getElem? ha))
  · rw [Nat.zero_add, lawEnv_f, ha, Option.getD_some]

theorem args_len : ∀ {sh : Shq} {l : List (Bool × List Value)}, ArgsOk sh l → (intsOf (cellsV l)).length = nIq sh
  | [], [], _ => rfl
  | [], _ :: _, h => h.elim
  | _ :: _, [], h => h.elim
  | (b, ks) :: s, (b', cs) :: l, h => by
    have a := (leafs_den (η := ⟨fun v => (intsOf cs)[v]?.getD 0, fun v => (fltsOf cs)[v]?.getD 0, fun _ _ => false⟩) (E := E0) 0 0 h.2.1 (fun j a ha => by
      simp only [Nat.zero_add, ha, Option.getD_some]
      exact wr_in ((leafs_rng h.2.1).1 a (List.mem_of_getElem? ha))) (fun j a ha => by simp only [Nat.zero_add, ha, Option.getD_some])).2.1
    simp only [cellsV, intsOf_append, List.length_append, a, args_len h.2.2.2, nIq]

section
variable {H : Type} {enc : TypeId × Value → H} {P : Program}
def isAggT (P : Program) (t : TypeId) : Bool :=
  match P.underlying t with
  | some (.struct _) => true
  | some (.array _ _) => true
  | _ => false
/-- An argument of numbers alone, in one. -/
theorem flat_agg {n : Nat} {t : TypeId} {ks : List AK} {w : World} {r : Reach} {b0 b : Nat} {sp : Nat → Bool} {hd : Bool} {v : Value} {d : DataW H} {p : List MemPlace} (hk : flatT P n t = some ks) (ha : isAggT P t = true) (hv : Value.okWide P w r b0 t v) (h : DataW.Trod enc P w b sp hd t v d p) :
    ∃ cs : List Value, v = .agg cs.toArray ∧ LeafsOk ks cs ∧ p = [] ∧ ∀ w' b' sp' hd', DataW.Trod enc P w' b' sp' hd' t v d [] := by
  have hcs : ∃ cs, v = .agg cs := by
    unfold Value.okWide at hv
    unfold isAggT at ha
    split at hv
    · obtain ⟨cs, h1, _⟩ := hv; exact ⟨cs, h1⟩
    · obtain ⟨cs, h1, _⟩ := hv; exact ⟨cs, h1⟩
    · rename_i h1 h2
      split at ha
      · rename_i fs hu; exact absurd hu (h1 fs)
      · rename_i m e hu; exact absurd hu (h2 m e)
      · cases ha
  obtain ⟨cs, rfl⟩ := hcs
  obtain ⟨fuel, hf⟩ := h
  obtain ⟨a1, a2, a3⟩ := flat_spec n t ks fuel _ _ hk hf
  simp only at a2
  exact ⟨cs.toList, rfl, a1, a2, fun w' b' sp' hd' => ⟨fuel, by rw [a3 w' b' sp' hd', a2]⟩⟩
theorem flat_int {t : TypeId} {w : World} {r : Reach} {b0 b : Nat} {sp : Nat → Bool} {hd : Bool} {v : Value} {d : DataW H} {p : List MemPlace} (hu : P.underlying t = some (.int .i64)) (hv : Value.okWide P w r b0 t v) (h : DataW.Trod enc P w b sp hd t v d p) :
    LeafsOk [.i] [v] ∧ p = [] ∧ ∀ w' b' sp' hd', DataW.Trod enc P w' b' sp' hd' t v d [] := by
  obtain ⟨m, rfl, rfl, rfl, hw⟩ := open_int hu hv h
  refine ⟨?_, rfl, fun w' b' sp' hd' => shut_int hu hw⟩
  simp only [Lit.wf, Bool.and_eq_true, decide_eq_true_eq] at hw
  have e1 : IntKind.i64.min = -9223372036854775808 := by decide
  have e2 : IntKind.i64.max = 9223372036854775807 := by decide
  rw [e1, e2] at hw
  exact ⟨⟨m, rfl, hw.1, hw.2⟩, trivial⟩
theorem shut_true {t : TypeId} {w : World} {b : Nat} {sp : Nat → Bool} {hd : Bool} (hu : P.underlying t = some .bool) : DataW.Trod enc P w b sp hd t (.bool true) (.lit (.bool true)) [] :=
  ⟨1, by simp [DataW.trod, Value.cells, hu]⟩
theorem okWide_true {t : TypeId} {w : World} (hu : P.underlying t = some .bool) : Value.okWide P w .any 0 t (.bool true) := by
  simp [Value.okWide, hu, Cell.okWide, Cell.ok]
end

/-- A law that the executor finds true at every leaf. -/
def lawTrue (r : Sv × St) : Bool := svEq r.1 (.one (.bool (.lit true)))
theorem law_any {P : Program} {C : Cx} (hC : ∀ η, GoodF η → C.Ok P η) {n : Nat} {f : FuncId} {fi : FI} {sh : Shq} (hf : FI.Ok P f fi)
    (h : ((callE C (drawX C) n fi (canA 0 0 sh) (stP [])).all lawTrue) = true) (hsz : Nat.ble (nIq sh) 10000 = true) {l : List (Bool × List Value)} (hl : ArgsOk sh l) (w : World) :
    Calls P f (argsV l).toArray w fun e w' => e = .returned (.bool true) ∧ Below w.heap.size w w' := by
  have hn : (intsOf (cellsV l)).length ≤ 10000 := by rw [args_len hl]; exact Nat.le_of_ble_eq_true hsz
  have hg := lawEnv_good hl (fun _ => 0) (fun _ _ => false)
  obtain ⟨x, hx, hxr⟩ := Tree.all_at (η := lawEnv l (fun _ => 0) (fun _ _ => false)) h
  have hxr := svEq_iff hxr
  obtain ⟨v, e1, _, e3⟩ := run_sumP (hC _ hg) hf (fun _ h => by cases h) hx (by rw [hxr]; rfl) w (lawEnv_den hl hn _ _)
  rw [hxr] at e1
  cases e1
  exact e3

end
end Go.Ex


namespace Go.Ex
open Go Go.RowKit Go.WideShapes Go.ChangeShapes
noncomputable section

def lawFin (fin : Sv × St → Bool) (r : Sv × St) : Bool := lawTrue r || (fin r && below 0 r.1)
theorem law_anyB {P : Program} {C : Cx} (hC : ∀ η, GoodF η → C.Ok P η) {n : Nat} {f : FuncId} {fi : FI} {sh : Shq} (hf : FI.Ok P f fi) {fin : Sv × St → Bool}
    (hfin : ∀ η r, GoodF η → fin r = true → r.2.pc.holds η → r.1.den η E0 = some (.bool true))
    (h : ((callE C (drawX C) n fi (canA 0 0 sh) (stP [])).all (lawFin fin)) = true) (hsz : Nat.ble (nIq sh) 10000 = true) {l : List (Bool × List Value)} (hl : ArgsOk sh l) (w : World) :
    Calls P f (argsV l).toArray w fun e w' => e = .returned (.bool true) ∧ Below w.heap.size w w' := by
  have hn : (intsOf (cellsV l)).length ≤ 10000 := by rw [args_len hl]; exact Nat.le_of_ble_eq_true hsz
  have hg := lawEnv_good hl (fun _ => 0) (fun _ _ => false)
  obtain ⟨x, hx, hxr⟩ := Tree.all_at (η := lawEnv l (fun _ => 0) (fun _ _ => false)) h
  simp only [lawFin, Bool.or_eq_true, Bool.and_eq_true] at hxr
  rcases hxr with hxr | ⟨hxr, hb⟩
  · have hxr := svEq_iff hxr
    obtain ⟨v, e1, _, e3⟩ := run_sumP (hC _ hg) hf (fun _ h => by cases h) hx (by rw [hxr]; rfl) w (lawEnv_den hl hn _ _)
    rw [hxr] at e1
    cases e1
    exact e3
  · obtain ⟨v, e1, e2, e3⟩ := run_sumP (hC _ hg) hf (fun _ h => by cases h) hx hb w (lawEnv_den hl hn _ _)
    rw [hfin _ x hg hxr e2] at e1
    cases e1
    exact e3

/-- Is a test known so? -/
def known (pc : PC) (a : Atom) (b : Bool) : Bool :=
  match look a pc with
  | some c => c == b
  | none => false
theorem known_ok {η : Env} {pc : PC} (hpc : pc.holds η) {a : Atom} {b : Bool} (h : known pc a b = true) : a.den η = b := by
  unfold known at h
  split at h
  · rename_i c hc
    rw [look_spec hpc hc, eq_of_beq h]
  · cases h
theorem known_le {η : Env} {pc : PC} (hpc : pc.holds η) {p : Poly} (h : known pc (.pos p) false = true) : evP η.i p ≤ 0 := by
  have := known_ok hpc h
  simp only [Atom.den] at this
  have := of_decide_eq_false this
  omega

end
end Go.Ex

