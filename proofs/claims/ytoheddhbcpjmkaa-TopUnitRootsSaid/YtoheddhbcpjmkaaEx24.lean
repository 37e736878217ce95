/-
  Floats as variables: tests of them, and what is cut out of them; a law's own values.
-/
import Derived.Test.YtoheddhbcpjmkaaEx23
import Derived.Test.YtoheddhbcpjmkaaFlP1

namespace Go.Ex
open Go Go.RowKit
noncomputable section

/-- A number, held within a range that a whole number of Go has. -/
def clamp (v : Int) : Int := if v < -4611686018427387904 then -4611686018427387904 else if 4611686018427387904 < v then 4611686018427387904 else v
theorem clamp_eq {v : Int} (h : -4611686018427387904 < clamp v ∧ clamp v < 4611686018427387904) : clamp v = v := by
  unfold clamp at *; split at h <;> rename_i h1
  · omega
  · split at h <;> rename_i h2
    · omega
    · rw [if_neg h1, if_neg h2]
theorem clamp_range (v : Int) : -4611686018427387904 ≤ clamp v ∧ clamp v ≤ 4611686018427387904 := by
  unfold clamp; split
  · omega
  · split <;> omega

/-- The first fault of pairs of floats: 0: none, 1: a part that is no whole number, 2: a part that is greater than m in size. -/
def codeU (w : Int → Bool) (b : Int → Int → Bool) (m : Int) : List Int → Nat
  | x :: y :: l => bif w x && w y then (bif b x m || b y m then 2 else codeU w b m l) else 1
  | _ => 0
abbrev codeOf (η : Env) (m : Int) (l : List Int) : Nat := codeU (fun k => η.u 0 [k]) (fun k m => η.u 3 [k, m]) m l

structure GoodF (η : Env) : Prop extends Good η where
  whole : ∀ k, η.u 0 [.ofNat k] = (wI (η.f k)).isSome
  val : ∀ k v, wI (η.f k) = some v → η.i (vF k) = clamp v
  lt64 : ∀ k, η.f k < 18446744073709551616
  val0 : ∀ k, wI (η.f k) = none → η.i (vF k) = 0
  code6 : ∀ m l, η.u 6 (m :: l) = decide (codeOf η m l ≠ 0)
  code7 : ∀ m l, η.u 7 (m :: l) = decide (codeOf η m l = 1)

/-- The tests of a law of floats: is one a whole number; is it greater in size. -/
def uW (fl : Nat → Nat) : Int → Bool
  | .ofNat k => (wI (fl k)).isSome
  | _ => false
def uB (fl : Nat → Nat) : Int → Int → Bool
  | .ofNat k, m => decide (m < ((match wI (fl k) with
      | some n => clamp n
      | none => 0 : Int)).natAbs)
  | _, _ => false

/-- The values of a law: floats, whole numbers, tests of its own. -/
def mkEnv (fl : Nat → Nat) (iv : Nat → Int) (uu : Nat → List Int → Bool) : Env where
  f := fl
  i := fun v => if 10000 ≤ v then (match wI (fl (v - 10000)) with
    | some n => clamp n
    | none => 0) else wr (iv v)
  u := fun k l => match k, l with
    | 0, [k] => uW fl k
    | 3, [k, m] => uB fl k m
    | 6, m :: l => decide (codeU (uW fl) (uB fl) m l ≠ 0)
    | 7, m :: l => decide (codeU (uW fl) (uB fl) m l = 1)
    | k, l => uu k l

theorem mkEnv_good {fl : Nat → Nat} (hf : ∀ k, fl k < 18446744073709551616) (iv : Nat → Int) (uu : Nat → List Int → Bool) : GoodF (mkEnv fl iv uu) where
  size := fun k m => by
    have e : vF k - 10000 = k := by simp [vF]
    have e2 : 10000 ≤ vF k := by simp [vF]
    simp only [mkEnv, e, e2, if_true, uB]
  inr := fun v => by
    simp only [mkEnv]
    split
    · split
      · rename_i n _
        have := clamp_range n
        exact wr_in (by omega)
      · rfl
    · exact wr_wr _
  whole := fun k => rfl
  val := fun k v h => by
    have e : vF k - 10000 = k := by simp [vF]
    have e2 : 10000 ≤ vF k := by simp [vF]
    simp only [mkEnv, e, e2, if_true] at h ⊢
    rw [h]
  lt64 := hf
  val0 := fun k h => by
    have e : vF k - 10000 = k := by simp [vF]
    have e2 : 10000 ≤ vF k := by simp [vF]
    have h : wI (fl k) = none := h
    simp only [mkEnv, e, e2, if_true, h]
  code6 := fun m l => rfl
  code7 := fun m l => rfl

/-! ## What is known of a float -/
inductive FN where
  | vr (k : Nat)
  | pl (p : Poly)
  | avr (k : Nat)
  | apl (p : Poly)
def isTrue? : Option Bool → Bool
  | some b => b
  | none => false
def small53 (pc : PC) (p : Poly) : Bool :=
  let r := rng pc p
  ltI (-9007199254740992) r.1 && ltI r.2 9007199254740992
/-- A sum, a difference, a product. -/
def foP : Nat → Poly → Poly → Poly
  | 0, p, q => pplus p q
  | 1, p, q => pminus p q
  | _, p, q => ptimes p q
def numOf (pc : PC) : Fx → Option FN
  | .var k => bif isTrue? (look (.user 0 [.ofNat k]) pc) then some (.vr k) else none
  | .ofI p => bif small53 pc p then some (.pl p) else none
  | .absB (.var k) => bif isTrue? (look (.user 0 [.ofNat k]) pc) then some (.avr k) else none
  | .absB (.ofI p) => bif small53 pc p then some (.apl p) else none
  | .neg p => bif small53 pc p then some (.pl (pneg p)) else none
  | .flo o f g => match numOf pc f, numOf pc g with
    | some (.pl p), some (.pl q) => bif small53 pc (foP o p q) then some (.pl (foP o p q)) else none
    | _, _ => none
  | _ => none
def FN.val (η : Env) : FN → Int
  | .vr k => η.i (vF k)
  | .pl p => evP η.i p
  | .avr k => (η.i (vF k)).natAbs
  | .apl p => (evP η.i p).natAbs

theorem small53_has {η : Env} (hg : Good η) {pc : PC} (hpc : pc.holds η) {p : Poly} (h : small53 pc p = true) : (evP η.i p).natAbs < 9007199254740992 ∧ wr (evP η.i p) = evP η.i p := by
  simp only [small53, Bool.and_eq_true, ltI_iff] at h
  obtain ⟨a, b⟩ := rng_has hg hpc p
  exact ⟨by omega, wr_in (by omega)⟩

theorem clamp_natAbs (v : Int) : clamp (v.natAbs : Int) = ((clamp v).natAbs : Int) := by
  unfold clamp
  split <;> split <;> (try split) <;> (try split) <;> omega

theorem neg_word (b : Nat) : (b ^^^ 2 ^ 63) % 9223372036854775808 = b % 9223372036854775808 ∧ ((b ^^^ 2 ^ 63) / 9223372036854775808 % 2 == 1) = !(b / 9223372036854775808 % 2 == 1) := by
  have e1 := Nat.xor_mod_two_pow (a := b) (b := 2 ^ 63) (n := 63)
  have e2 := Nat.xor_div_two_pow (a := b) (b := 2 ^ 63) (n := 63)
  have e3 := Nat.xor_mod_two_pow (a := b / 2 ^ 63) (b := 1) (n := 1)
  rw [Nat.mod_self, Nat.xor_zero] at e1
  rw [Nat.div_self (by decide)] at e2
  refine ⟨e1, ?_⟩
  have e4 : (b ^^^ 2 ^ 63) / 9223372036854775808 % 2 = (b / 9223372036854775808 % 2) ^^^ 1 := by
    have : (b ^^^ 2 ^ 63) / 9223372036854775808 = b / 2 ^ 63 ^^^ 1 := e2
    rw [this]; exact e3
  rw [e4]
  rcases Nat.mod_two_eq_zero_or_one (b / 9223372036854775808) with h | h <;> rw [h] <;> rfl
theorem signed_flip (s : Bool) (m k : Nat) : Ieee.signed (!s) m k = -Ieee.signed s m k := by
  unfold Ieee.signed; cases s <;> simp
theorem wI_neg {b : Nat} {v : Int} (h : wI b = some v) : wI (Op.negFloat .f64 b) = some (-v) := by
  have e0 : Op.negFloat .f64 b = b ^^^ 2 ^ 63 := rfl
  rw [e0]
  obtain ⟨w1, w2⟩ := neg_word b
  unfold wI at h
  split at h
  · rename_i s m e hr
    have hr' : Ieee.double.read (b ^^^ 2 ^ 63) = .number (!s) m e := by
      rw [dbl_read] at hr ⊢
      rw [w1, w2]
      split at hr
      · rename_i hc; rw [if_pos hc]; cases hr; rfl
      · rename_i hc; rw [if_neg hc]
        split at hr
        · rename_i hc'; rw [if_pos hc']; cases hr; rfl
        · split at hr <;> cases hr
    unfold wI; rw [hr']
    simp only
    split at h
    · rename_i h0; cases h; rw [if_pos h0, signed_flip]
    · rename_i h0; rw [if_neg h0]
      split at h
      · rename_i hm; cases h; rw [if_pos hm, signed_flip]
      · cases h
  · cases h

theorem floatBits_fo {o : Nat} {a b : Nat} {f : Nat → Int} {p q : Poly} (ha : wI a = some (evP f p)) (hb : wI b = some (evP f q)) (h : (evP f (foP o p q)).natAbs < 9007199254740992) : ∃ r, floatBits (fop o) .f64 a b = some r ∧ wI r = some (evP f (foP o p q)) := by
  rcases o with _ | _ | o
  · simp only [foP, evP_pplus] at h ⊢; exact wI_add ha hb h
  · simp only [foP, evP_pminus] at h ⊢; exact wI_sub ha hb h
  · simp only [foP, evP_ptimes] at h ⊢; exact wI_mul ha hb h
theorem numOf_all {η : Env} (hg : GoodF η) {pc : PC} (hpc : pc.holds η) : ∀ {f : Fx} {x : FN}, numOf pc f = some x → (∃ v, wI (f.den η) = some v ∧ clamp v = x.val η) ∧ ∀ p, x = .pl p → (evP η.i p).natAbs < 9007199254740992 := by
  have key : ∀ k, isTrue? (look (.user 0 [.ofNat k]) pc) = true → ∃ v, wI (η.f k) = some v ∧ clamp v = η.i (vF k) := by
    intro k hk
    cases hl : look (.user 0 [.ofNat k]) pc with
    | none => rw [hl] at hk; cases hk
    | some b =>
      rw [hl] at hk
      simp only [isTrue?] at hk
      subst hk
      have := look_spec hpc hl
      simp only [Atom.den] at this
      rw [hg.whole] at this
      obtain ⟨v, hv⟩ := Option.isSome_iff_exists.1 this
      exact ⟨v, hv, (hg.val k v hv).symm⟩
  have hclamp : ∀ p, (evP η.i p).natAbs < 9007199254740992 → clamp (evP η.i p) = evP η.i p := fun p hp => by
    unfold clamp; rw [if_neg (by omega), if_neg (by omega)]
  intro f
  induction f with
  | lit b => intro x h; simp only [numOf] at h; cases h
  | var k =>
    intro x h
    simp only [numOf] at h
    cases hk : isTrue? (look (.user 0 [.ofNat k]) pc) with
    | false => rw [hk] at h; cases h
    | true => rw [hk] at h; cases h; exact ⟨key k hk, fun p hp => by cases hp⟩
  | ofI p =>
    intro x h
    simp only [numOf] at h
    cases hp : small53 pc p with
    | false => rw [hp] at h; cases h
    | true =>
      rw [hp] at h; cases h
      obtain ⟨h1, h2⟩ := small53_has hg.toGood hpc hp
      exact ⟨⟨evP η.i p, by simp only [Fx.den]; rw [h2]; exact wI_nearest h1, hclamp p h1⟩, fun q hq => by cases hq; exact h1⟩
  | neg p =>
    intro x h
    simp only [numOf] at h
    cases hp : small53 pc p with
    | false => rw [hp] at h; cases h
    | true =>
      rw [hp] at h; cases h
      obtain ⟨h1, h2⟩ := small53_has hg.toGood hpc hp
      refine ⟨⟨_, by simp only [Fx.den]; rw [h2]; exact wI_neg (wI_nearest h1), ?_⟩, fun q hq => by cases hq; rw [evP_pneg, Int.natAbs_neg]; exact h1⟩
      simp only [FN.val, evP_pneg]
      unfold clamp; rw [if_neg (by omega), if_neg (by omega)]
  | absB f _ =>
    intro x h
    cases f with
    | var k =>
      simp only [numOf] at h
      cases hk : isTrue? (look (.user 0 [.ofNat k]) pc) with
      | false => rw [hk] at h; cases h
      | true =>
        rw [hk] at h; cases h
        obtain ⟨v, h1, h2⟩ := key k hk
        exact ⟨⟨_, by simp only [Fx.den]; exact wI_abs h1, by rw [clamp_natAbs, h2]; rfl⟩, fun q hq => by cases hq⟩
    | ofI p =>
      simp only [numOf] at h
      cases hp : small53 pc p with
      | false => rw [hp] at h; cases h
      | true =>
        rw [hp] at h; cases h
        obtain ⟨h1, h2⟩ := small53_has hg.toGood hpc hp
        exact ⟨⟨_, by simp only [Fx.den]; rw [h2]; exact wI_abs (wI_nearest h1), by rw [clamp_natAbs, hclamp p h1]; rfl⟩, fun q hq => by cases hq⟩
    | lit b => simp only [numOf] at h; cases h
    | neg b => simp only [numOf] at h; cases h
    | absB b => simp only [numOf] at h; cases h
    | flo o b c => simp only [numOf] at h; cases h
  | flo o f g ihf ihg =>
    intro x h
    simp only [numOf] at h
    split at h
    · rename_i p q hp hq
      cases hs : small53 pc (foP o p q) with
      | false => rw [hs] at h; cases h
      | true =>
        rw [hs] at h; cases h
        obtain ⟨⟨u, a1, a2⟩, a3⟩ := ihf hp
        obtain ⟨⟨v, b1, b2⟩, b3⟩ := ihg hq
        have a3 := a3 p rfl
        have b3 := b3 q rfl
        simp only [FN.val] at a2 b2
        have eu : clamp u = u := clamp_eq (by rw [a2]; omega)
        have ev : clamp v = v := clamp_eq (by rw [b2]; omega)
        rw [eu] at a2; rw [ev] at b2
        subst a2; subst b2
        obtain ⟨s1, _⟩ := small53_has hg.toGood hpc hs
        obtain ⟨r, r1, r2⟩ := floatBits_fo (o := o) a1 b1 s1
        exact ⟨⟨_, by simp only [Fx.den, r1, Option.getD_some]; exact r2, hclamp _ s1⟩, fun q' hq' => by cases hq'; exact s1⟩
    · cases h
theorem numOf_has {η : Env} (hg : GoodF η) {pc : PC} (hpc : pc.holds η) {f : Fx} {x : FN} (h : numOf pc f = some x) : ∃ v, wI (f.den η) = some v ∧ clamp v = x.val η := (numOf_all hg hpc h).1
/-- Whole numbers that are written so are less than 2^53. -/
theorem numOf_pl {η : Env} (hg : GoodF η) {pc : PC} (hpc : pc.holds η) {f : Fx} {p : Poly} (h : numOf pc f = some (.pl p)) : wI (f.den η) = some (evP η.i p) ∧ (evP η.i p).natAbs < 9007199254740992 := by
  have key := (numOf_all hg hpc h).2 p rfl
  obtain ⟨v, h1, h2⟩ := numOf_has hg hpc h
  simp only [FN.val] at h2
  have : clamp v = v := clamp_eq (by rw [h2]; omega)
  rw [this] at h2; subst h2
  exact ⟨h1, key⟩
/-- Such an operation is valid. -/
theorem numOf_flo {η : Env} (hg : GoodF η) {pc : PC} (hpc : pc.holds η) {o : Nat} {f g : Fx} {x : FN} (h : numOf pc (.flo o f g) = some x) : floatBits (fop o) .f64 (f.den η) (g.den η) = some ((Fx.flo o f g).den η) ∧ (∃ y, numOf pc f = some y) ∧ ∃ y, numOf pc g = some y := by
  simp only [numOf] at h
  split at h
  · rename_i p q hp hq
    cases hs : small53 pc (foP o p q) with
    | false => rw [hs] at h; cases h
    | true =>
      obtain ⟨a1, _⟩ := numOf_pl hg hpc hp
      obtain ⟨b1, _⟩ := numOf_pl hg hpc hq
      obtain ⟨s1, _⟩ := small53_has hg.toGood hpc hs
      obtain ⟨r, r1, r2⟩ := floatBits_fo (o := o) a1 b1 s1
      exact ⟨by simp only [Fx.den, r1, Option.getD_some], ⟨_, hp⟩, ⟨_, hq⟩⟩
  · cases h
/-- Products of complex numbers whose parts are whole. -/
def chB (pc : PC) (op : BinOp) (a b c d : Fx) : Option (Fx × Fx) := match op with
  | .mul => match numOf pc (.flo 1 (.flo 2 a c) (.flo 2 b d)), numOf pc (.flo 0 (.flo 2 a d) (.flo 2 b c)) with
    | some _, some _ => some (.flo 1 (.flo 2 a c) (.flo 2 b d), .flo 0 (.flo 2 a d) (.flo 2 b c))
    | _, _ => none
  | _ => none
theorem chB_ok {P : Program} {η : Env} (hg : GoodF η) : ∀ pc op a b c d r, chB pc op a b c d = some r → PC.holds η pc → ∀ t w, (binOp op t (.complex .f64 (a.den η) (b.den η)) (.complex .f64 (c.den η) (d.den η))).run P w = .ok (.complex .f64 (r.1.den η) (r.2.den η)) w := by
  intro pc op a b c d r h hpc t w
  unfold chB at h
  split at h
  · split at h
    · rename_i x y hx hy
      cases h
      obtain ⟨e1, ⟨_, e2⟩, _, e3⟩ := numOf_flo hg hpc hx
      obtain ⟨e4, ⟨_, e5⟩, _, e6⟩ := numOf_flo hg hpc hy
      have e2 := (numOf_flo hg hpc e2).1
      have e3 := (numOf_flo hg hpc e3).1
      have e5 := (numOf_flo hg hpc e5).1
      have e6 := (numOf_flo hg hpc e6).1
      refine run_complex_mul w t _ _ _ _ _ _ ?_
      have f0 : fop 0 = .add := rfl
      have f1 : fop 1 = .sub := rfl
      have f2 : fop 2 = .mul := rfl
      simp only [f0, f1, f2] at e1 e2 e3 e4 e5 e6
      unfold cMulBits
      simp only [e2, e3, e5, e6, Option.bind_some, e1, e4]
    · cases h
  · cases h

/-- The test of a float's number against a literal's. -/
def litOf : Fx → Option Int
  | .lit b => match wI b with
    | some m => bif ltI (-4611686018427387904) m && ltI m 4611686018427387904 then some m else none
    | none => none
  | _ => none
def polTest (op : BinOp) (q : Poly) (m : Int) : Option Bx :=
  match op with
  | .lss => some (posB (pminus (pconst m) q))
  | .geq => some (posB (pminus (pconst m) q)).not
  | .gtr => some (posB (pminus q (pconst m)))
  | .leq => some (posB (pminus q (pconst m))).not
  | .eql => some (zerB (pminus q (pconst m)))
  | .neq => some (zerB (pminus q (pconst m))).not
  | _ => none
def absTest (op : BinOp) (b : Bx) : Option Bx :=
  match op with
  | .gtr => some b
  | .leq => some b.not
  | _ => none
def fhL (pc : PC) (op : BinOp) (x y : Fx) : Option Bx :=
  match numOf pc x, litOf y with
  | some (.vr k), some m => polTest op (pvar (vF k)) m
  | some (.pl p), some m => polTest op p m
  | some (.avr k), some m => absTest op (.at_ false (.user 3 [.ofNat k, m]))
  | some (.apl p), some m => let r := rng pc p
    bif leI (-m) r.1 && leI r.2 m then absTest op (.lit false) else bif ltI m r.1 || ltI r.2 (-m) then absTest op (.lit true) else none
  | _, _ => none
/-- The test of two whole numbers that are written so. -/
def fhP (pc : PC) (op : BinOp) (x y : Fx) : Option Bx :=
  match numOf pc x, numOf pc y with
  | some (.pl p), some (.pl q) => polTest op (pminus p q) 0
  | _, _ => none
def fhB (pc : PC) (op : BinOp) (x y : Fx) : Option Bx :=
  match fhL pc op x y with
  | some b => some b
  | none => fhP pc op x y

def cmpB (op : BinOp) (v m : Int) : Option Bool :=
  match op with
  | .lss => some (decide (v < m))
  | .geq => some (decide (m ≤ v))
  | .gtr => some (decide (m < v))
  | .leq => some (decide (v ≤ m))
  | .eql => some (decide (v = m))
  | .neq => some (!decide (v = m))
  | _ => none

theorem run_fcmp {P : Program} {op : BinOp} {t : TypeId} {a b : Nat} {v m : Int} {r : Bool} (ha : wI a = some v) (hb : wI b = some m) (hr : cmpB op v m = some r) (w : World) : (binOp op t (.float .f64 a) (.float .f64 b)).run P w = .ok (.bool r) w := by
  have ho : FloatKind.f64.format.order a b = some (compare v m) := order_wI ha hb
  have c1 : (compare v m = .lt) ↔ v < m := by
    show compareOfLessAndEq v m = .lt ↔ _
    unfold compareOfLessAndEq; split
    · simp [*]
    · split <;> simp [*]
  have c2 : (compare v m = .eq) ↔ v = m := compare_eq_iff v m
  have c3 : (compare v m = .gt) ↔ m < v := by
    show compareOfLessAndEq v m = .gt ↔ _
    unfold compareOfLessAndEq; split
    · simp; omega
    · split
      · simp; omega
      · simp; omega
  cases op <;> simp only [cmpB] at hr <;> cases hr
  all_goals (simp only [binOp, Op.floatCmp, ho, ne_eq, not_true_eq_false, if_false, Sem.run_pure])
  all_goals (congr 2)
  all_goals (rw [Bool.eq_iff_iff]; simp [c1, c2, c3])
  all_goals omega

theorem polTest_den {η : Env} {op : BinOp} {q : Poly} {m : Int} {b : Bx} (h : polTest op q m = some b) : cmpB op (evP η.i q) m = some (b.den η) := by
  unfold polTest at h
  split at h <;> first | cases h | skip
  all_goals (simp only [cmpB, Bx.den_not, posB_den, zerB_den, evP_pminus, evP_pconst, Option.some.injEq])
  all_goals first
    | exact decide_eq_decide.2 (by omega)
    | (rw [← decide_not]; exact decide_eq_decide.2 (by omega))
    | (congr 1; exact decide_eq_decide.2 (by omega))

theorem cmpB_clamp {op : BinOp} {v m : Int} (h1 : -4611686018427387904 < m) (h2 : m < 4611686018427387904) : cmpB op v m = cmpB op (clamp v) m := by
  have e1 : v < m ↔ clamp v < m := by unfold clamp; split <;> (try split) <;> omega
  have e2 : m ≤ v ↔ m ≤ clamp v := by unfold clamp; split <;> (try split) <;> omega
  have e3 : m < v ↔ m < clamp v := by unfold clamp; split <;> (try split) <;> omega
  have e4 : v ≤ m ↔ clamp v ≤ m := by unfold clamp; split <;> (try split) <;> omega
  have e5 : v = m ↔ clamp v = m := by unfold clamp; split <;> (try split) <;> omega
  cases op <;> simp only [cmpB, e1, e2, e3, e4, e5]

theorem absTest_den {η : Env} {op : BinOp} {c b : Bx} {n m : Int} (h : absTest op c = some b) (hc : c.den η = decide (m < n)) : cmpB op n m = some (b.den η) := by
  unfold absTest at h
  split at h <;> first | cases h | skip
  · simp only [cmpB, hc]
  · simp only [cmpB, Bx.den_not, hc, Option.some.injEq, ← decide_not]
    exact decide_eq_decide.2 (by omega)

theorem cmpB_sub {op : BinOp} {v m : Int} : cmpB op v m = cmpB op (v - m) 0 := by
  have e1 : v < m ↔ v - m < 0 := by omega
  have e2 : m ≤ v ↔ 0 ≤ v - m := by omega
  have e3 : m < v ↔ 0 < v - m := by omega
  have e4 : v ≤ m ↔ v - m ≤ 0 := by omega
  have e5 : v = m ↔ v - m = 0 := by omega
  cases op <;> simp only [cmpB, e1, e2, e3, e4, e5]
theorem fhP_ok {P : Program} {η : Env} (hg : GoodF η) : ∀ pc op x y b, fhP pc op x y = some b → PC.holds η pc → ∀ t w, (binOp op t (.float .f64 (x.den η)) (.float .f64 (y.den η))).run P w = .ok (.bool (b.den η)) w := by
  intro pc op x y b h hpc t w
  unfold fhP at h
  split at h
  · rename_i p q hp hq
    obtain ⟨a1, _⟩ := numOf_pl hg hpc hp
    obtain ⟨a2, _⟩ := numOf_pl hg hpc hq
    have := polTest_den (η := η) h
    rw [evP_pminus] at this
    exact run_fcmp a1 a2 (by rw [cmpB_sub]; exact this) w
  · cases h
theorem fhL_ok {P : Program} {η : Env} (hg : GoodF η) : ∀ pc op x y b, fhL pc op x y = some b → PC.holds η pc → ∀ t w, (binOp op t (.float .f64 (x.den η)) (.float .f64 (y.den η))).run P w = .ok (.bool (b.den η)) w := by
  intro pc op x y b h hpc t w
  have main : ∀ z m, numOf pc x = some z → litOf y = some m → cmpB op (z.val η) m = some (b.den η) → (binOp op t (.float .f64 (x.den η)) (.float .f64 (y.den η))).run P w = .ok (.bool (b.den η)) w := by
    intro z m hz hm hc
    obtain ⟨v, hv, hcl⟩ := numOf_has hg hpc hz
    unfold litOf at hm
    split at hm
    · rename_i b'
      split at hm
      · rename_i m' hm'
        cases hb : (ltI (-4611686018427387904) m' && ltI m' 4611686018427387904) with
        | false => rw [hb] at hm; cases hm
        | true =>
          rw [hb] at hm; cases hm
          simp only [Bool.and_eq_true, ltI_iff] at hb
          exact run_fcmp hv hm' (by rw [cmpB_clamp hb.1 hb.2, hcl]; exact hc) w
      · cases hm
    · cases hm
  unfold fhL at h
  split at h
  · rename_i k m hz hm
    refine main _ m hz hm ?_
    have := polTest_den (η := η) h
    rwa [evP_pvar] at this
  · rename_i p m hz hm
    exact main _ m hz hm (polTest_den h)
  · rename_i k m hz hm
    refine main _ m hz hm (absTest_den h ?_)
    simp only [Bx.den, Atom.den, Bool.xor_false]
    exact hg.size k m
  · rename_i p m hz hm
    refine main _ m hz hm ?_
    obtain ⟨a, b'⟩ := rng_has hg.toGood hpc p
    simp only at h
    cases h1 : (leI (-m) (rng pc p).1 && leI (rng pc p).2 m) with
    | true =>
      rw [h1] at h
      simp only [Bool.and_eq_true, leI_iff] at h1
      exact absTest_den h (by simp only [Bx.den, FN.val]; exact (decide_eq_false (by omega)).symm)
    | false =>
      rw [h1] at h
      cases h2 : (ltI m (rng pc p).1 || ltI (rng pc p).2 (-m)) with
      | true =>
        rw [h2] at h
        simp only [Bool.or_eq_true, ltI_iff] at h2
        exact absTest_den h (by simp only [Bx.den, FN.val]; exact (decide_eq_true (by omega)).symm)
      | false => rw [h2] at h; cases h
  · cases h
theorem fhB_ok {P : Program} {η : Env} (hg : GoodF η) : ∀ pc op x y b, fhB pc op x y = some b → PC.holds η pc → ∀ t w, (binOp op t (.float .f64 (x.den η)) (.float .f64 (y.den η))).run P w = .ok (.bool (b.den η)) w := by
  intro pc op x y b h
  unfold fhB at h
  split at h
  · rename_i c hc; cases h; exact fhL_ok hg pc op x y _ hc
  · exact fhP_ok hg pc op x y b h

/-- int(f). -/
def f2iB (pc : PC) (f : Fx) : Option Ix :=
  match f with
  | .lit b => match wI b with
    | some m => bif inR m then some (.lit m) else none
    | none => none
  | f => match numOf pc f with
    | some (.vr k) => let r := varR pc (vF k)
      bif ltI (-4611686018427387904) r.1 && ltI r.2 4611686018427387904 then some (.poly (pvar (vF k))) else none
    | some (.pl p) => some (.poly p)
    | _ => none

theorem run_f2i {P : Program} {b : Nat} {v : Int} (h : wI b = some v) (hr : -9223372036854775808 ≤ v ∧ v ≤ 9223372036854775807) (w : World) : (Conv.floatToInt .f64 b .i64).run P w = .ok (.int .i64 v) w := by
  have hmin : IntKind.i64.min = -9223372036854775808 := by decide
  have hmax : IntKind.i64.max = 9223372036854775807 := by decide
  simp only [Conv.floatToInt, toInt_wI h, hmin, hmax, hr, and_self, if_true, Sem.run_pure]

theorem f2iB_ok {P : Program} {η : Env} (hg : GoodF η) : ∀ pc f x, f2iB pc f = some x → PC.holds η pc → ∀ w, (Conv.floatToInt .f64 (f.den η) .i64).run P w = .ok (.int .i64 (x.den η)) w := by
  intro pc f x h hpc w
  unfold f2iB at h
  split at h
  · rename_i b
    split at h
    · rename_i m hm
      cases hi : inR m with
      | false => rw [hi] at h; cases h
      | true => rw [hi] at h; cases h; exact run_f2i hm (inR_range hi) w
    · cases h
  · split at h
    · rename_i k hk
      obtain ⟨v, hv, hcl⟩ := numOf_has hg hpc hk
      have hr := varR_has hg.toGood hpc (vF k)
      simp only at h
      cases hb : (ltI (-4611686018427387904) (varR pc (vF k)).1 && ltI (varR pc (vF k)).2 4611686018427387904) with
      | false => rw [hb] at h; cases h
      | true =>
        rw [hb] at h; cases h
        simp only [Bool.and_eq_true, ltI_iff] at hb
        obtain ⟨a, b⟩ := hr
        simp only [FN.val] at hcl
        have hv' : clamp v = v := clamp_eq (by rw [hcl]; omega)
        have e : (Ix.poly (pvar (vF k))).den η = v := by
          simp only [Ix.den, evP_pvar]; rw [hg.inr, ← hcl, hv']
        rw [e]
        exact run_f2i hv (by rw [← hv', hcl]; omega) w
    · rename_i p hp
      cases h
      obtain ⟨h1, h2⟩ := numOf_pl hg hpc hp
      have e : (Ix.poly p).den η = evP η.i p := by simp only [Ix.den]; exact wr_in (by omega)
      rw [e]
      exact run_f2i h1 (by omega) w
    · cases h

end
end Go.Ex

