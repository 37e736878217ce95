/-
  Summaries of calls that part: the tree of tests; what is shown of one.
-/
import Derived.Test.YtoheddhbcpjmkaaEx27
namespace Go.Ex
open Go Go.RowKit
noncomputable section

inductive Prt where
  | leaf (s : Sv)
  | small (m : Int) (ps : List Poly) (t f : Prt)
  | lt (p q : Poly) (t f : Prt)
  | eq (p : Poly) (t f : Prt)
  | code (m : Int) (ks : List Nat) (a b c : Prt)

def kInts : List Nat → List Int
  | [] => []
  | k :: l => .ofNat k :: kInts l
/-- What a summary comes to. -/
def Prt.at_ (η : Env) : Prt → Sv
  | .leaf s => s
  | .small m ps t f => bif allS η m ps then t.at_ η else f.at_ η
  | .lt p q t f => bif decide (wr (evP η.i p) < wr (evP η.i q)) then t.at_ η else f.at_ η
  | .eq p t f => bif decide (wr (evP η.i p) = 0) then t.at_ η else f.at_ η
  | .code m ks a b c => match codeOf η m (kInts ks) with
    | 0 => a.at_ η
    | 1 => b.at_ η
    | _ => c.at_ η

/-! ## Deciding -/
def sIn (pc : PC) (m : Int) (q : Poly) : Bool := DB.fits pc q && (let r := rng pc q
  leI (-m) r.1 && leI r.2 m)
def sOut (pc : PC) (m : Int) (q : Poly) : Bool := DB.fits pc q && (let r := rng pc q
  ltI m r.1 || ltI r.2 (-m))
theorem sIn_ok {η : Env} (hg : GoodF η) {pc : PC} (hpc : pc.holds η) {m : Int} {q : Poly} (h : sIn pc m q = true) : -m ≤ wr (evP η.i q) ∧ wr (evP η.i q) ≤ m := by
  simp only [sIn, Bool.and_eq_true, leI_iff] at h
  rw [(DB_ok hg.toGood).fits pc q h.1 hpc]
  obtain ⟨a, b⟩ := rng_has hg.toGood hpc q
  omega
theorem sOut_ok {η : Env} (hg : GoodF η) {pc : PC} (hpc : pc.holds η) {m : Int} {q : Poly} (h : sOut pc m q = true) : ¬ (-m ≤ wr (evP η.i q) ∧ wr (evP η.i q) ≤ m) := by
  simp only [sOut, Bool.and_eq_true, Bool.or_eq_true, ltI_iff] at h
  rw [(DB_ok hg.toGood).fits pc q h.1 hpc]
  obtain ⟨a, b⟩ := rng_has hg.toGood hpc q
  omega
def allIn (pc : PC) (m : Int) : List Poly → Bool
  | [] => true
  | q :: l => sIn pc m q && allIn pc m l
def anyOut (pc : PC) (m : Int) : List Poly → Bool
  | [] => false
  | q :: l => sOut pc m q || anyOut pc m l
theorem allIn_ok {η : Env} (hg : GoodF η) {pc : PC} (hpc : pc.holds η) {m : Int} : ∀ {l : List Poly}, allIn pc m l = true → allS η m l = true
  | [], _ => rfl
  | q :: l, h => by
    simp only [allIn, Bool.and_eq_true] at h
    have := sIn_ok hg hpc h.1
    simp only [allS, allIn_ok hg hpc h.2, decide_eq_true this.1, decide_eq_true this.2, Bool.and_self]
theorem anyOut_ok {η : Env} (hg : GoodF η) {pc : PC} (hpc : pc.holds η) {m : Int} : ∀ {l : List Poly}, anyOut pc m l = true → allS η m l = false
  | [], h => by cases h
  | q :: l, h => by
    simp only [anyOut, Bool.or_eq_true] at h
    rcases h with h | h
    · have := sOut_ok hg hpc h
      rw [allS]
      cases hc : (decide (-m ≤ wr (evP η.i q)) && decide (wr (evP η.i q) ≤ m)) with
      | false => rfl
      | true => simp only [Bool.and_eq_true, decide_eq_true_eq] at hc; exact absurd hc this
    · rw [allS, anyOut_ok hg hpc h, Bool.and_false]

def smallDec (pc : PC) (m : Int) (qs : List Poly) : Option Bool :=
  match look (.small m qs) pc with
  | some b => some b
  | none => bif allIn pc m qs then some true else bif anyOut pc m qs then some false else none
theorem smallDec_ok {η : Env} (hg : GoodF η) {pc : PC} (hpc : pc.holds η) {m : Int} {qs : List Poly} {b : Bool} (h : smallDec pc m qs = some b) : allS η m qs = b := by
  unfold smallDec at h
  split at h
  · rename_i b' hb; cases h; exact look_spec hpc hb
  · cases h1 : allIn pc m qs with
    | true => rw [h1] at h; cases h; exact allIn_ok hg hpc h1
    | false =>
      rw [h1] at h
      cases h2 : anyOut pc m qs with
      | true => rw [h2] at h; cases h; exact anyOut_ok hg hpc h2
      | false => rw [h2] at h; cases h

/-- What is known when all are small. -/
def bxFact (b : Bx) (pc : PC) : PC :=
  match b with
  | .at_ false a => (a, true) :: pc
  | _ => pc
theorem bxFact_ok {η : Env} {b : Bx} {pc : PC} (hb : b.den η = true) (h : pc.holds η) : (bxFact b pc).holds η := by
  unfold bxFact
  split
  · rename_i a
    intro y hy
    cases hy with
    | head => simpa [Bx.den] using hb
    | tail _ hy => exact h y hy
  · exact h
def smallFacts (pc0 : PC) (m : Int) : List Poly → PC → PC
  | [], pc => pc
  | q :: l, pc => bif DB.fits pc0 q then bxFact (posB (pplus q (pconst (m + 1)))) (bxFact (posB (pminus (pconst (m + 1)) q)) (smallFacts pc0 m l pc)) else smallFacts pc0 m l pc
theorem smallFacts_ok {η : Env} (hg : GoodF η) {pc0 : PC} (h0 : pc0.holds η) {m : Int} : ∀ {l : List Poly} {pc : PC}, allS η m l = true → pc.holds η → (smallFacts pc0 m l pc).holds η
  | [], pc, _, h => h
  | q :: l, pc, ha, h => by
    simp only [allS, Bool.and_eq_true, decide_eq_true_eq] at ha
    have ih := smallFacts_ok hg h0 (l := l) ha.2 h
    unfold smallFacts
    cases hf : DB.fits pc0 q with
    | false => exact ih
    | true =>
      rw [(DB_ok hg.toGood).fits pc0 q hf h0] at ha
      refine bxFact_ok ?_ (bxFact_ok ?_ ih)
      · rw [posB_den, evP_pplus, evP_pconst]; exact decide_eq_true (by omega)
      · rw [posB_den, evP_pminus, evP_pconst]; exact decide_eq_true (by omega)

/-! ## Floats -/
def faU0 (η : Env) : FA → Bool
  | .var k => η.u 0 [.ofNat k]
  | .num _ _ => true
def faU3 (η : Env) (m : Int) : FA → Bool
  | .var k => η.u 3 [.ofNat k, m]
  | .num p _ => decide (m < (evP η.i p).natAbs)
def codeFA (η : Env) (m : Int) : List FA → Nat
  | x :: y :: l => bif faU0 η x && faU0 η y then (bif faU3 η m x || faU3 η m y then 2 else codeFA η m l) else 1
  | _ => 0
def wD (pc : PC) : FA → Option Bool
  | .var k => look (.user 0 [.ofNat k]) pc
  | .num _ _ => some true
def bD (pc : PC) (m : Int) : FA → Option Bool
  | .var k => decB pc (.user 3 [.ofNat k, m])
  | .num p _ => let r := rng pc p
    bif leI (-m) r.1 && leI r.2 m then some false else bif ltI m r.1 || ltI r.2 (-m) then some true else none
theorem wD_ok {η : Env} {pc : PC} (hpc : pc.holds η) {a : FA} {b : Bool} (h : wD pc a = some b) : faU0 η a = b := by
  cases a with
  | var k => exact look_spec hpc h
  | num p x => cases h; rfl
theorem bD_ok {η : Env} (hg : GoodF η) {pc : PC} (hpc : pc.holds η) {m : Int} {a : FA} {b : Bool} (h : bD pc m a = some b) : faU3 η m a = b := by
  cases a with
  | var k => exact (DB_ok hg.toGood).dec pc _ b h hpc
  | num p x =>
    simp only [bD] at h
    obtain ⟨u, v⟩ := rng_has hg.toGood hpc p
    cases h1 : (leI (-m) (rng pc p).1 && leI (rng pc p).2 m) with
    | true =>
      rw [h1] at h; cases h
      simp only [Bool.and_eq_true, leI_iff] at h1
      exact decide_eq_false (by omega)
    | false =>
      rw [h1] at h
      cases h2 : (ltI m (rng pc p).1 || ltI (rng pc p).2 (-m)) with
      | true =>
        rw [h2] at h; cases h
        simp only [Bool.or_eq_true, ltI_iff] at h2
        exact decide_eq_true (by omega)
      | false => rw [h2] at h; cases h
/-- The code, by what is known. -/
def scanC (pc : PC) (m : Int) : List FA → Option Nat
  | x :: y :: l => match wD pc x, wD pc y with
    | some true, some true => match bD pc m x, bD pc m y with
      | some false, some false => scanC pc m l
      | some true, _ => some 2
      | _, some true => some 2
      | _, _ => none
    | some false, _ => some 1
    | _, some false => some 1
    | _, _ => none
  | _ => some 0
theorem scanC_ok {η : Env} (hg : GoodF η) {pc : PC} (hpc : pc.holds η) {m : Int} : ∀ {l : List FA} {c : Nat}, scanC pc m l = some c → codeFA η m l = c
  | [], c, h => by cases h; rfl
  | [x], c, h => by cases h; rfl
  | x :: y :: l, c, h => by
    simp only [scanC] at h
    simp only [codeFA]
    split at h
    · rename_i h1 h2
      rw [wD_ok hpc h1, wD_ok hpc h2]
      split at h
      · rename_i h3 h4
        rw [bD_ok hg hpc h3, bD_ok hg hpc h4]
        exact scanC_ok hg hpc h
      · rename_i h3; cases h; rw [bD_ok hg hpc h3]; rfl
      · rename_i h3 _; cases h; rw [bD_ok hg hpc h3, Bool.or_true]; rfl
      · cases h
    · rename_i h1; cases h; rw [wD_ok hpc h1]; rfl
    · rename_i h1 _; cases h; rw [wD_ok hpc h1, Bool.and_false]; rfl
    · cases h

def varsOf : List FA → Option (List Int)
  | [] => some []
  | .var k :: l => match varsOf l with
    | some m => some (.ofNat k :: m)
    | none => none
  | _ => none
theorem varsOf_code {η : Env} {m : Int} : ∀ {l : List FA} {js : List Int}, varsOf l = some js → codeFA η m l = codeOf η m js
  | [], js, h => by cases h; rfl
  | [.var k], js, h => by cases h; rfl
  | [.num p x], js, h => by cases h
  | .num p x :: y :: l, js, h => by cases h
  | .var k :: .num p x :: l, js, h => by cases h
  | .var k :: .var j :: l, js, h => by
    simp only [varsOf] at h
    split at h
    · rename_i r hr
      split at hr
      · rename_i r' hr'
        cases hr; cases h
        simp only [codeFA, faU0, faU3, varsOf_code hr', codeOf, codeU]
      · cases hr
    · cases h
def codeFacts (m : Int) : List Int → PC → PC
  | x :: y :: l, pc => (.user 0 [x], true) :: (.user 3 [x, m], false) :: (.user 0 [y], true) :: (.user 3 [y, m], false) :: codeFacts m l pc
  | _, pc => pc
theorem codeFacts_ok {η : Env} {m : Int} : ∀ {js : List Int} {pc : PC}, codeOf η m js = 0 → pc.holds η → (codeFacts m js pc).holds η
  | [], pc, _, h => h
  | [x], pc, _, h => h
  | x :: y :: l, pc, hc, h => by
    simp only [codeOf, codeU] at hc
    cases h1 : (η.u 0 [x] && η.u 0 [y]) with
    | false => rw [h1] at hc; cases hc
    | true =>
      rw [h1] at hc
      cases h2 : (η.u 3 [x, m] || η.u 3 [y, m]) with
      | true => rw [h2] at hc; cases hc
      | false =>
        rw [h2] at hc
        have ih := codeFacts_ok (js := l) hc h
        simp only [Bool.and_eq_true] at h1
        simp only [Bool.or_eq_false_iff] at h2
        intro z hz
        simp only [codeFacts, List.mem_cons] at hz
        rcases hz with rfl | rfl | rfl | rfl | hz
        · exact h1.1
        · exact h2.1
        · exact h1.2
        · exact h2.2
        · exact ih z hz
def faAll (s : Sub) : List Nat → Option (List FA)
  | [] => some []
  | k :: l => match nth s.2 k, faAll s l with
    | some a, some m => some (a :: m)
    | _, _ => none

theorem fit_u0 {η η' : Env} {s : Sub} (hg : GoodF η) (hM : Fit η s η') {k : Nat} {a : FA} (h : nth s.2 k = some a) : η'.u 0 [.ofNat k] = faU0 η a := by
  rw [hM.gd.whole, hM.flt k a h]
  cases a with
  | var j => exact (hg.whole j).symm
  | num p x =>
    have := hM.ok k _ h
    simp only [FA.Ok] at this
    simp only [FA.fx, this.1, Option.isSome_some, faU0]
theorem fit_u3 {η η' : Env} {s : Sub} (hg : GoodF η) (hM : Fit η s η') {k : Nat} {a : FA} (h : nth s.2 k = some a) (m : Int) : η'.u 3 [.ofNat k, m] = faU3 η m a := by
  rw [hM.gd.size, hM.val k a h]
  cases a with
  | var j => exact (hg.size j m).symm
  | num p x => rfl
theorem fit_code {η η' : Env} {s : Sub} (hg : GoodF η) (hM : Fit η s η') (m : Int) : ∀ {ks : List Nat} {as : List FA}, faAll s ks = some as → codeOf η' m (kInts ks) = codeFA η m as
  | [], as, h => by cases h; rfl
  | [k], as, h => by
    simp only [faAll] at h
    split at h
    · rename_i a r h1 h2; cases h2; cases h; rfl
    · cases h
  | k :: j :: ks, as, h => by
    simp only [faAll] at h
    split at h
    · rename_i a r h1 h2
      split at h2
      · rename_i b q h3 h4
        cases h2; cases h
        simp only [codeOf, kInts, codeU, codeFA, fit_u0 hg hM h1, fit_u0 hg hM h3, fit_u3 hg hM h1, fit_u3 hg hM h3]
        rw [← fit_code hg hM m h4]
      · cases h2
    · cases h

/-- A summary, with the arguments filled in. -/
def gF (s : Sub) : Prt → PC → Tree (Sv × PC)
  | .leaf r, pc => match subVo s r with
    | some v => .leaf (v, pc)
    | none => .fail
  | .small m ps t f, pc => match subPs s ps with
    | none => .fail
    | some qs => match smallDec pc m qs with
      | some true => gF s t pc
      | some false => gF s f pc
      | none => branch DB pc (.at_ false (.small m qs)) fun b pc' => match b with
        | true => gF s t (smallFacts pc m qs pc')
        | false => gF s f pc'
  | .lt p q t f, pc => match subPo s p, subPo s q with
    | some a, some b => branch DB pc (mkLt DB pc a b) fun b pc => match b with
      | true => gF s t pc
      | false => gF s f pc
    | _, _ => .fail
  | .eq p t f, pc => match subPo s p with
    | some a => branch DB pc (mkEq DB pc a []) fun b pc => match b with
      | true => gF s t pc
      | false => gF s f pc
    | none => .fail
  | .code m ks a b c, pc => match faAll s ks with
    | none => .fail
    | some as => match scanC pc m as with
      | some 0 => gF s a pc
      | some 1 => gF s b pc
      | some _ => gF s c pc
      | none => match varsOf as with
        | none => .fail
        | some js => branch DB pc (.at_ false (.user 6 (m :: js))) fun t pc => match t with
          | false => gF s a (codeFacts m js pc)
          | true => branch DB pc (.at_ false (.user 7 (m :: js))) fun t pc => match t with
            | true => gF s b pc
            | false => gF s c pc

theorem gF_ok {η η' : Env} {s : Sub} (hg : GoodF η) (hM : Fit η s η') : ∀ (T : Prt) (pc : PC) (r : Sv) (pc' : PC), (gF s T pc).at_ η = some (r, pc') → pc.holds η → pc'.holds η ∧ ∀ E E', r.den η E = (T.at_ η').den η' E' := by
  have hD : DB.Ok η := DB_ok hg.toGood
  intro T
  induction T with
  | leaf v =>
    intro pc r pc' h hpc
    simp only [gF] at h
    split at h
    · rename_i u hu
      simp only [Tree.at_, Option.some.injEq, Prod.mk.injEq] at h
      obtain ⟨rfl, rfl⟩ := h
      exact ⟨hpc, fun E E' => subVo_ok hM hu⟩
    · cases h
  | small m ps t f iht ihf =>
    intro pc r pc' h hpc
    simp only [gF] at h
    split at h
    · cases h
    · rename_i qs hqs
      have e := subPs_ok hM m hqs
      simp only [Prt.at_, e]
      split at h
      · rename_i hd; rw [smallDec_ok hg hpc hd]; exact iht pc r pc' h hpc
      · rename_i hd; rw [smallDec_ok hg hpc hd]; exact ihf pc r pc' h hpc
      · obtain ⟨pc1, h1, h2⟩ := at_branch hD hpc h
        simp only [Bx.den, Atom.den, Bool.xor_false] at h2
        cases ha : allS η m qs with
        | true =>
          rw [ha] at h2
          exact iht _ r pc' h2 (smallFacts_ok hg hpc ha h1)
        | false =>
          rw [ha] at h2
          exact ihf _ r pc' h2 h1
  | lt p q t f iht ihf =>
    intro pc r pc' h hpc
    simp only [gF] at h
    split at h
    · rename_i a b ha hb
      obtain ⟨pc1, h1, h2⟩ := at_branch hD hpc h
      rw [mkLt_den hD hpc] at h2
      simp only [Prt.at_, subPo_ok hM ha, subPo_ok hM hb]
      cases hc : decide (wr (evP η.i a) < wr (evP η.i b)) with
      | true => rw [hc] at h2; exact iht _ r pc' h2 h1
      | false => rw [hc] at h2; exact ihf _ r pc' h2 h1
    · cases h
  | eq p t f iht ihf =>
    intro pc r pc' h hpc
    simp only [gF] at h
    split at h
    · rename_i a ha
      obtain ⟨pc1, h1, h2⟩ := at_branch hD hpc h
      have e0 : wr (evP η.i []) = 0 := by simp [evP, wr_eq]
      rw [mkEq_den hD hpc, e0] at h2
      simp only [Prt.at_, subPo_ok hM ha]
      cases hc : decide (wr (evP η.i a) = 0) with
      | true => rw [hc] at h2; exact iht _ r pc' h2 h1
      | false => rw [hc] at h2; exact ihf _ r pc' h2 h1
    · cases h
  | code m ks a b c iha ihb ihc =>
    intro pc r pc' h hpc
    simp only [gF] at h
    split at h
    · cases h
    · rename_i as has
      have e := fit_code hg hM m has
      simp only [Prt.at_, e]
      split at h
      · rename_i hs; rw [scanC_ok hg hpc hs]; exact iha _ r pc' h hpc
      · rename_i hs; rw [scanC_ok hg hpc hs]; exact ihb _ r pc' h hpc
      · rename_i n h0 h1 hs
        rw [scanC_ok hg hpc hs]
        split
        · exact (h0 rfl).elim
        · exact (h1 rfl).elim
        · exact ihc _ r pc' h hpc
      · split at h
        · cases h
        · rename_i js hjs
          have ej := varsOf_code (η := η) (m := m) hjs
          rw [ej]
          obtain ⟨pc1, h1, h2⟩ := at_branch hD hpc h
          simp only [Bx.den, Atom.den, Bool.xor_false, hg.code6] at h2
          cases hc : decide (codeOf η m js ≠ 0) with
          | false =>
            rw [hc] at h2
            have hc := of_decide_eq_false hc
            have hc : codeOf η m js = 0 := by omega
            rw [hc]
            exact iha _ r pc' h2 (codeFacts_ok hc h1)
          | true =>
            rw [hc] at h2
            have hc := of_decide_eq_true hc
            obtain ⟨pc2, h3, h4⟩ := at_branch hD h1 h2
            simp only [Bx.den, Atom.den, Bool.xor_false, hg.code7] at h4
            cases hc' : decide (codeOf η m js = 1) with
            | true =>
              rw [hc'] at h4
              rw [of_decide_eq_true hc']
              exact ihb _ r pc' h4 h3
            | false =>
              rw [hc'] at h4
              have hc' := of_decide_eq_false hc'
              split
              · contradiction
              · contradiction
              · exact ihc _ r pc' h4 h3

/-! ## What is shown of a summary -/
def idP : Nat → Nat → List Poly
  | _, 0 => []
  | v, n + 1 => pvar v :: idP (v + 1) n
def idF : Nat → Nat → List FA
  | _, 0 => []
  | v, n + 1 => .var v :: idF (v + 1) n
def idSub (sh : Shq) : Sub := (idP 0 (nIq sh), idF 0 (nFq sh))
theorem idP_nth : ∀ (n v j : Nat) (p : Poly), nth (idP v n) j = some p → p = pvar (v + j)
  | 0, v, j, p, h => by simp [idP, nth_eq] at h
  | n + 1, v, 0, p, h => by cases h; rfl
  | n + 1, v, j + 1, p, h => by
    have := idP_nth n (v + 1) j p (by rw [nth_eq] at h ⊢; simpa [idP] using h)
    rw [this, show v + 1 + j = v + (j + 1) by omega]
theorem idF_nth : ∀ (n v j : Nat) (a : FA), nth (idF v n) j = some a → a = .var (v + j)
  | 0, v, j, p, h => by simp [idF, nth_eq] at h
  | n + 1, v, 0, p, h => by cases h; rfl
  | n + 1, v, j + 1, p, h => by
    have := idF_nth n (v + 1) j p (by rw [nth_eq] at h ⊢; simpa [idF] using h)
    rw [this, show v + 1 + j = v + (j + 1) by omega]
theorem fit_id {η : Env} (hg : GoodF η) (sh : Shq) : Fit η (idSub sh) η where
  gd := hg
  int := fun v p h _ => by have := idP_nth _ _ _ _ h; rw [this, evP_pvar, Nat.zero_add]
  flt := fun k a h => by have := idF_nth _ _ _ _ h; rw [this, Nat.zero_add]; rfl
  val := fun k a h => by have := idF_nth _ _ _ _ h; rw [this, Nat.zero_add]; rfl
  ok := fun k a h => by have := idF_nth _ _ _ _ h; rw [this]; trivial

/-- Values for the variables of a summary: those of the arguments. -/
def fitF (η : Env) (s : Sub) (k : Nat) : Nat := match nth s.2 k with
  | some a => a.fx.den η
  | none => 0
def fitI (η : Env) (s : Sub) (v : Nat) : Int := match nth s.1 v with
  | some p => evP η.i p
  | none => 0
def fitEnv (η : Env) (s : Sub) : Env := mkEnv (fitF η s) (fitI η s) (fun _ _ => false)
theorem fitEnv_f (η : Env) (s : Sub) {k : Nat} {a : FA} (h : nth s.2 k = some a) : (fitEnv η s).f k = a.fx.den η := by
  show fitF η s k = _
  rw [fitF, h]
theorem fitEnv_i (η : Env) (s : Sub) {v : Nat} {p : Poly} (h : nth s.1 v = some p) (hv : v < 10000) : wr ((fitEnv η s).i v) = wr (evP η.i p) := by
  have hv : ¬ 10000 ≤ v := by omega
  have e : (fitEnv η s).i v = wr (fitI η s v) := if_neg hv
  rw [e, wr_wr, fitI, h]
theorem fitEnv_gd {η : Env} (hg : GoodF η) {s : Sub} (hok : ∀ k a, nth s.2 k = some a → a.Ok η) : GoodF (fitEnv η s) := by
  refine mkEnv_good (fun k => ?_) _ _
  unfold fitF
  split
  · rename_i a ha
    have := hok k a ha
    cases a with
    | var j => exact hg.lt64 j
    | num p x => exact this.2.2
  · omega
theorem fit_val {η η' : Env} (hg : GoodF η) (hgd : GoodF η') {k : Nat} {a : FA} (hf : η'.f k = a.fx.den η) (hok : a.Ok η) : η'.i (vF k) = a.val η := by
  cases a with
  | var j =>
    simp only [FA.fx, Fx.den] at hf
    simp only [FA.val]
    cases hw : wI (η.f j) with
    | none =>
      rw [hgd.val0 k (by rw [hf]; exact hw), hg.val0 j hw]
    | some n =>
      rw [hgd.val k n (by rw [hf]; exact hw), hg.val j n hw]
  | num p x =>
    obtain ⟨q1, q2, _⟩ := hok
    simp only [FA.fx] at hf
    have e1 := hgd.val k _ (by rw [hf]; exact q1)
    simp only [FA.val]
    rw [e1]
    unfold clamp
    rw [if_neg (by omega), if_neg (by omega)]
theorem fit_env {η : Env} (hg : GoodF η) {s : Sub} (hok : ∀ a ∈ s.2, a.Ok η) : Fit η s (fitEnv η s) := by
  have hok' : ∀ k a, nth s.2 k = some a → a.Ok η := fun k a h => hok a (by rw [nth_eq] at h; exact List.mem_of_getElem? h)
  have hgd : GoodF (fitEnv η s) := fitEnv_gd hg hok'
  exact ⟨hgd, fun v p h hv => fitEnv_i η s h hv, fun k a h => fitEnv_f η s h, fun k a h => fit_val hg hgd (fitEnv_f η s h) (hok' k a h), hok'⟩

def fsOk (sh : Shq) (T : Prt) (r : Sv × St) : Bool := match gF (idSub sh) T r.2.pc with
  | .leaf x => svEq r.1 x.1 && below 0 r.1
  | _ => false

/-- A run, its value, and what is known behind it. -/
def stP (pc : PC) : St := ⟨.nil, .nil, 0, 0, pc⟩
theorem run_sumP {C : Cx} {P : Program} {η : Env} (hC : C.Ok P η) {n : Nat} {f : FuncId} {fi : FI} {args : List Sv} {r : Sv × St} {pc : PC} (hf : FI.Ok P f fi) (hpc : pc.holds η) (h : (callE C (drawX C) n fi args (stP pc)).at_ η = some r) (hb : below 0 r.1 = true)
    (w : World) {vs : List Value} (hv : denArgs η E0 args = some vs) : ∃ v, r.1.den η E0 = some v ∧ r.2.pc.holds η ∧ Calls P f vs.toArray w fun e w' => e = .returned v ∧ Below w.heap.size w w' := by
  have hc := call_run hC n fi args (stP pc) r h f hf hpc (Nat.le_refl _) E0 w.heap.size w w vs (hrel0 η w) (Below.refl _ _) hv
  have hd : ∀ E', r.1.den η E' = r.1.den η E0 := fun E' => Sv.den_agree (fun i hi => absurd hi (Nat.not_lt_zero _)) hb
  obtain ⟨_, _, v, E', _, e1, _, _, _, e6, _⟩ := Calls.exists hc
  rw [hd] at e1
  refine ⟨v, e1, e6, hc.mono ?_⟩
  rintro e w' ⟨v', E'', rfl, e1', _, _, e4, _⟩
  rw [hd, e1] at e1'
  cases e1'
  exact ⟨rfl, e4⟩

theorem getA_len {η : Env} (hg : GoodF η) {pc : PC} (hpc : pc.holds η) : ∀ {sh : Shq} {l : List Sv} {s : Sub}, getA pc sh l = some s → s.1.length = nIq sh := by
  intro sh
  induction sh with
  | nil => intro l s h; obtain ⟨_, rfl⟩ := getA_nil h; rfl
  | cons k sh ih =>
    intro l s h
    obtain ⟨b, ks⟩ := k
    obtain ⟨cs, l', r, q, rfl, h1, h2, rfl, _⟩ := getA_cons h
    simp [nIq, (getL_len hg hpc h1).1, ih h2]

/-- What a summary takes for granted: numbers that are at most so large. -/
abbrev Need := List (Int × List Poly)
def needB (s : Sub) (pc : PC) : Need → Bool
  | [] => true
  | (m, ps) :: N => (match subPs s ps with
    | some qs => (match smallDec pc m qs with
      | some b => b
      | none => false)
    | none => false) && needB s pc N
def needPc : Need → PC → PC
  | [], pc => pc
  | (m, ps) :: N, pc => smallFacts [] m ps ((.small m ps, true) :: needPc N pc)
theorem need_ok {η η' : Env} {s : Sub} (hg : GoodF η) (hM : Fit η s η') {pc : PC} (hpc : pc.holds η) : ∀ {N : Need}, needB s pc N = true → (needPc N []).holds η'
  | [], _ => fun x hx => by cases hx
  | (m, ps) :: N, h => by
    simp only [needB, Bool.and_eq_true] at h
    obtain ⟨h1, h2⟩ := h
    have ih := need_ok hg hM hpc (N := N) h2
    split at h1
    · rename_i qs hqs
      split at h1
      · rename_i b hb
        subst h1
        have e := smallDec_ok hg hpc hb
        rw [← subPs_ok hM m hqs] at e
        refine smallFacts_ok hM.gd (fun x hx => by cases hx) e ?_
        intro y hy
        cases hy with
        | head => exact e
        | tail _ hy => exact ih y hy
      · cases h1
    · cases h1
def gFN (sh : Shq) (N : Need) (T : Prt) : List Sv → PC → Tree (Sv × PC) := fun l pc => match getA pc sh l with
  | some s => bif needB s pc N then gF s T pc else .fail
  | none => .fail

theorem fs_sumN {P : Program} {C : Cx} (hC : ∀ η, GoodF η → C.Ok P η) {n : Nat} {f : FuncId} {fi : FI} {sh : Shq} {N : Need} {T : Prt} (hf : FI.Ok P f fi)
    (h : ((callE C (drawX C) n fi (canA 0 0 sh) (stP (needPc N []))).all (fsOk sh T)) = true) (hsz : Nat.ble (nIq sh) 10000 = true) {η : Env} (hg : GoodF η) : SumOk P η f (gFN sh N T) := by
  intro svs pc r pc' hr hpc
  unfold gFN at hr
  split at hr
  · rename_i s hs
    cases hN : needB s pc N with
    | false => rw [hN] at hr; cases hr
    | true =>
      rw [hN] at hr
      have hok := getA_ok hg hpc hs
      have hM := fit_env hg hok
      obtain ⟨q1, q2⟩ := gF_ok hg hM T pc r pc' hr hpc
      refine ⟨q1, fun E vs w hv => ?_⟩
      obtain ⟨x, hx, hxr⟩ := Tree.all_at (η := fitEnv η s) h
      simp only [fsOk] at hxr
      split at hxr
      · rename_i y hy
        simp only [Bool.and_eq_true] at hxr
        have hlen : ∀ j p, nth s.1 j = some p → j < 10000 → wr ((fitEnv η s).i (0 + j)) = wr (evP η.i p) := fun j p hp hj => by rw [Nat.zero_add]; exact hM.int j p hp hj
        have hlen' : ∀ j p, nth s.1 j = some p → j < 10000 := by
          intro j p hp
          rw [nth_eq] at hp
          have h1 := (List.getElem?_eq_some_iff.1 hp).1
          have h2 : s.1.length = nIq sh := getA_len hg hpc hs
          have h3 := Nat.le_of_ble_eq_true hsz
          omega
        have hargs := canA_den (η' := fitEnv η s) (E := E) (E' := E0) hg hpc sh svs s 0 0 vs hs hv (fun j p hp => hlen j p hp (hlen' j p hp)) (fun j a ha => by rw [Nat.zero_add]; exact hM.flt j a ha)
        obtain ⟨v, e1, e2, e3⟩ := run_sumP (hC _ hM.gd) hf (need_ok hg hM hpc hN) hx hxr.2 w hargs
        obtain ⟨_, g2⟩ := gF_ok hM.gd (fit_id hM.gd sh) T x.2.pc y.1 y.2 (by rw [hy]; rfl) e2
        refine ⟨v, ?_, .inr ⟨run_callFunc hf _ w, e3⟩⟩
        rw [q2 E E0, ← g2 E0 E0, ← svEq_iff hxr.1]; exact e1
      · cases hxr
  · cases hr

/-- Two summaries, the second where the first fails. -/
def gOr (g h : List Sv → PC → Tree (Sv × PC)) : List Sv → PC → Tree (Sv × PC) := fun l pc => match g l pc with
  | .fail => h l pc
  | t => t
theorem gOr_ok {P : Program} {η : Env} {f : FuncId} {g h : List Sv → PC → Tree (Sv × PC)} (hg : SumOk P η f g) (hh : SumOk P η f h) : SumOk P η f (gOr g h) := by
  intro svs pc r pc' hr hpc
  unfold gOr at hr
  split at hr
  · exact hh svs pc r pc' hr hpc
  · exact hg svs pc r pc' hr hpc

end
end Go.Ex
