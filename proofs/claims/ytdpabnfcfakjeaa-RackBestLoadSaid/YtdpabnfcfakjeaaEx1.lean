/-
 The data of the symbolic executor: whole numbers as polynomials over variables, tests, values, blocks, trees of forks; what each denotes.
-/
import Derived.Calls
import Derived.Below
import Derived.IntWalk
import Derived.Laws.Cover2
import Derived.Laws.FloatArith

namespace Go.Ex
open Go Go.RowKit

/-! ## Polynomials: a list of terms (variables of the monomial, coefficient) -/
abbrev Mon := List Nat
abbrev dC := List (Mon × Int)

structure Env where
 i : Nat → Int
 f : Nat → Nat
 u : Nat → List Int → Bool

def evM (η : Nat → Int) : Mon → Int
 | [] => 1
 | v :: m => η v * evM η m
def evP (η : Nat → Int) : dC → Int
 | [] => 0
 | (m, c) :: p => c * evM η m + evP η p

/-- 0: less, 1: equal, 2: greater; a longer list is less, so that the order is kept by products. -/
def N3 : Mon → Mon → Nat
 | [], [] => 1
 | [], _ :: _ => 2
 | _ :: _, [] => 0
 | v :: a, w :: b => bif Nat.blt v w then 0 else bif Nat.beq v w then N3 a b else 2

theorem ME : ∀ (a b : Mon), N3 a b = 1 → a = b
 | [], [], _ => rfl
 | [], _ :: _, h => by simp [N3] at h
 | _ :: _, [], h => by simp [N3] at h
 | v :: a, w :: b, h => by
  simp only [N3] at h
  cases h1 : Nat.blt v w with
  | true => simp [h1] at h
  | false =>
   cases h2 : Nat.beq v w with
   | false => simp [h1, h2] at h
   | true =>
    simp [h1, h2] at h
    rw [Nat.eq_of_beq_eq_true h2, ME a b h]

/-- Is a whole number 0? -/
def isZ : Int → Bool
 | .ofNat n => Nat.beq n 0
 | .negSucc _ => false
theorem MF {n : Int} (h : isZ n = true) : n = 0 := by
 cases n with
 | ofNat n => simp only [isZ] at h; rw [Nat.eq_of_beq_eq_true h]; rfl
 | negSucc n => simp [isZ] at h

def BM : Nat → dC → dC → dC
 | 0, p, q => p ++ q
 | _ + 1, [], q => q
 | _ + 1, p, [] => p
 | n + 1, (m, c) :: p, (k, d) :: q =>
  match N3 m k with
  | 0 => (m, c) :: BM n p ((k, d) :: q)
  | 1 => bif isZ (c + d) then BM n p q else (m, c + d) :: BM n p q
  | _ => (k, d) :: BM n ((m, c) :: p) q

theorem w6 (η : Nat → Int) : ∀ p q : dC, evP η (p ++ q) = evP η p + evP η q
 | [], q => by simp [evP]
 | (m, c) :: p, q => by simp [evP, w6 η p q]; omega

theorem nD (η : Nat → Int) : ∀ (n : Nat) (p q : dC), evP η (BM n p q) = evP η p + evP η q
 | 0, p, q => by simp [BM, w6]
 | _ + 1, [], q => by simp [BM, evP]
 | _ + 1, (m, c) :: p, [] => by simp [BM, evP]
 | n + 1, (m, c) :: p, (k, d) :: q => by
  simp only [BM]
  split
  ·simp only [evP, nD η n]; omega
  ·rename_i h
   have hm := ME m k h
   subst hm
   cases hz : isZ (c + d) with
   | true =>
    have := MF hz
    simp only [cond_true, evP, nD η n]
    have e : d = -c := by omega
    subst e
    rw [Int.neg_mul]; omega
   | false =>
    simp only [cond_false, evP, nD η n, Int.add_mul]; omega
  ·simp only [evP, nD η n]; omega

def GB (p q : dC) : dC := BM 100000 p q
theorem oW (η : Nat → Int) (p q : dC) : evP η (GB p q) = evP η p + evP η q := nD η _ p q

def GC : Nat → Mon → Mon → Mon
 | 0, a, b => a ++ b
 | _ + 1, [], b => b
 | _ + 1, a, [] => a
 | n + 1, v :: a, w :: b => bif Nat.ble v w then v :: GC n a (w :: b) else w :: GC n (v :: a) b

theorem w7 (η : Nat → Int) : ∀ a b : Mon, evM η (a ++ b) = evM η a * evM η b
 | [], b => by simp [evM]
 | v :: a, b => by simp [evM, w7 η a b, Int.mul_assoc]

theorem w8 (η : Nat → Int) : ∀ (n : Nat) (a b : Mon), evM η (GC n a b) = evM η a * evM η b
 | 0, a, b => by simp [GC, w7]
 | _ + 1, [], b => by simp [GC, evM]
 | _ + 1, v :: a, [] => by simp [GC, evM]
 | n + 1, v :: a, w :: b => by
  simp only [GC]
  cases Nat.ble v w with
  | true => simp only [cond_true, evM, w8 η n]; simp only [Int.mul_assoc]
  | false =>
   simp only [cond_false, evM, w8 η n]
   simp only [Int.mul_assoc]
   rw [Int.mul_left_comm (η w) (η v), Int.mul_left_comm (η w) (evM η a)]

def GD (m : Mon) (c : Int) : dC → dC
 | [] => []
 | (k, d) :: q => (GC 1000 m k, c * d) :: GD m c q
theorem B4 (η : Nat → Int) (m : Mon) (c : Int) : ∀ q, evP η (GD m c q) = c * evM η m * evP η q
 | [] => by simp [GD, evP]
 | (k, d) :: q => by
  simp only [GD, evP, B4 η m c q, w8, Int.mul_add]
  congr 1
  simp only [Int.mul_assoc, Int.mul_left_comm d]

def w9 : dC → dC → dC
 | [], _ => []
 | (m, c) :: p, q => GB (GD m c q) (w9 p q)
theorem xA (η : Nat → Int) : ∀ p q, evP η (w9 p q) = evP η p * evP η q
 | [], q => by simp [w9, evP]
 | (m, c) :: p, q => by simp [w9, evP, oW, B4, xA η p q, Int.add_mul]

def BN : dC → dC
 | [] => []
 | (m, c) :: p => (m, -c) :: BN p
theorem jR (η : Nat → Int) : ∀ p, evP η (BN p) = -evP η p
 | [] => by simp [BN, evP]
 | (m, c) :: p => by simp only [BN, evP, jR η p, Int.neg_mul]; omega

def nE (p q : dC) : dC := GB p (BN q)
theorem fV (η : Nat → Int) (p q : dC) : evP η (nE p q) = evP η p - evP η q := by rw [nE, oW, jR]; omega

def JQ (n : Int) : dC := bif isZ n then [] else [([], n)]
theorem JR (η : Nat → Int) (n : Int) : evP η (JQ n) = n := by
 unfold JQ
 cases h : isZ n with
 | true => simp [evP, MF h]
 | false => simp [evP, evM]
/-! ## Whole numbers of Go, floats, tests -/
inductive Fx where
 | lit (bits : Nat)
 | var (i : Nat)
 | ofI (p : dC)
 | neg (p : dC)
 | absB (f : Fx)
 | flo (o : Nat) (f g : Fx)
/-- Shapes of cells of plain data; plain data: lists are functions, so that what is read of them is a term. -/
inductive Sh where
 | bool
 | int (k : IntKind)
 | str
 | list (cs : List Sh)
inductive FD where
 | bool (b : Bool)
 | int (k : IntKind) (n : Int)
 | str (l : List UInt8)
 | list (cs : List Sh) (n : Nat) (f : Nat → Nat → FD)
def FD.b : FD → Bool
 | .bool b => b
 | _ => false
def FD.i : FD → Int
 | .int _ n => n
 | _ => 0
def FD.s : FD → List UInt8
 | .str l => l
 | _ => []
def FD.ln : FD → Nat
 | .list _ n _ => n
 | _ => 0
def FD.fn : FD → Nat → Nat → FD
 | .list _ _ f => f
 | _ => fun _ _ => .bool false
def Sh.ex (d : FD) : Sh → FD
 | .bool => .bool d.b
 | .int k => .int k d.i
 | .str => .str d.s
 | .list cs => .list cs d.ln d.fn
/-- The shape at a place. -/
def iD : List Sh → Nat → Sh
 | [], _ => .bool
 | s :: _, 0 => s
 | _ :: l, j + 1 => iD l j
/-- What a value reads as in frozen memory. -/
def bB (z : Nat → Nat → Option Value) : FD → Value → Prop
 | .bool b, v => v = .bool b
 | .int k n, v => v = .int k n
 | .str l, v => v = .string ⟨l.toArray⟩
 | .list cs n f, v => ∃ a c, v = .slice a n c ∧ n ≤ c ∧ c ≤ maxLen ∧ (n = 0 ∨ ∃ B o, a = some ⟨B, o, none⟩ ∧ ∀ i, i < n → ∀ j, j < cs.length → (iD cs j).ex (f i j) = f i j ∧ ∃ u, z B (o + (i * cs.length + j)) = some u ∧ bB z (f i j) u)

/-- Where a frozen slice came from. -/
inductive Ref where
 | root (k j : Nat)
 | elem (r : Ref) (c : Nat)
 | sub (r : Ref) (sz lo n : Nat)

inductive Ix where
 | lit (n : Int)
 | tm (n : Int)
 | poly (p : dC)
 | abs (p : dC)
 | bits (f : Fx)
inductive fE where
 | pos (p : dC)
 | zer (p : dC)
 | ltw (p q : dC)
 | eqw (p : dC)
 | user (k : Nat) (l : List Int)
 | tm (b : Bool)
 | small (m : Int) (ps : List dC)
inductive Bx where
 | lit (b : Bool)
 | at_ (neg : Bool) (a : fE)

abbrev wr (n : Int) : Int := IntKind.i64.wrap n

/-- 0: a sum, 1: a difference, else a product. -/
def fop : Nat → BinOp
 | 0 => .add
 | 1 => .sub
 | _ => .mul
def Fx.den (η : Env) : Fx → Nat
 | .lit b => b
 | .var i => η.f i
 | .ofI p => FloatKind.f64.nearest (wr (evP η.i p))
 | .neg p => Op.negFloat .f64 (FloatKind.f64.nearest (wr (evP η.i p)))
 | .absB f => f.den η % 9223372036854775808
 | .flo o f g => (floatBits (fop o) .f64 (f.den η) (g.den η)).getD 0
def Ix.den (η : Env) : Ix → Int
 | .lit n => n
 | .tm n => n
 | .poly p => wr (evP η.i p)
 | .abs p => if wr (-(evP η.i p)) > wr (evP η.i p) then wr (-(evP η.i p)) else wr (evP η.i p)
 | .bits f => (f.den η : Int)
/-- All of these are at most m in size. -/
def W8 (η : Env) (m : Int) : List dC → Bool
 | [] => true
 | p :: l => (decide (-m ≤ wr (evP η.i p)) && decide (wr (evP η.i p) ≤ m)) && W8 η m l
def fE.den (η : Env) : fE → Bool
 | .pos p => decide (0 < evP η.i p)
 | .zer p => decide (evP η.i p = 0)
 | .ltw p q => decide (wr (evP η.i p) < wr (evP η.i q))
 | .eqw p => decide (wr (evP η.i p) = 0)
 | .user k l => η.u k l
 | .tm b => b
 | .small m ps => W8 η m ps
def Bx.den (η : Env) : Bx → Bool
 | .lit b => b
 | .at_ neg a => a.den η ^^ neg
def Bx.not : Bx → Bx
 | .lit b => .lit (!b)
 | .at_ neg a => .at_ (!neg) a
theorem Bx.den_not (η : Env) (b : Bx) : b.not.den η = !(b.den η) := by
 cases b with
 | lit b => rfl
 | at_ neg a => simp only [Bx.not, Bx.den]; cases a.den η <;> cases neg <;> rfl

abbrev PC := List (fE × Bool)
def PC.holds (η : Env) (pc : PC) : Prop := ∀ x ∈ pc, x.1.den η = x.2

/-! ## Values -/
/-- A slice's capacity: known; or what is eG a place of a row whose capacity only the run knows. -/
inductive Cap where
 | known (c : Nat)
 | rest (a : Nat)
inductive Sc where
 | bool (b : Bx)
 | int (k : IntKind) (x : Ix)
 | flt (k : FloatKind) (f : Fx)
 | cpx (k : FloatKind) (re im : Fx)
 | str (l : List UInt8)
 | ptr (a : Option (Nat × Nat))
 | slice (a : Option (Nat × Nat)) (len : Nat) (cap : Cap)
 | map (r : Option Nat)
 | fn (f : FuncId) (caps : List (Nat × Nat))
 | asl (b : Nat) (n : Ix) (c : Nat)
 | aptr (b o : Nat)
 | nilFn
 | nilIface
 | ostr (l : List UInt8)
 | fz (r : Ref) (d : FD)
 | fptr (r : Ref) (cs : List Sh) (n : Nat) (f : Nat → Nat → FD) (i j : Nat)
 | own (b n : Nat)
 | rptr (b sz i j : Nat)
 | mown (b q i n : Nat)
 | mptr (b q i j : Nat)
inductive Sv where
 | one (c : Sc)
 | agg (l : List Sc)
 | tup (l : List (Bool × List Sc))
 | undef

/-- What stays: the deferred calls; the frozen cells that a run began with. -/
structure Fix where
 l : List Deferred
 z0 : Nat → Nat → Option Value
/-- Where the executor's blocks lie: the real block, and how many elements a row has room for; the frozen slices' values; the frozen cells. -/
structure Emb where
 b : Nat → Option (Nat × Nat)
 r : Nat → Nat → Option Value
 z : Nat → Nat → Option Value
 d : Nat → Option Obj
 dl : Fix
 m : Nat → Nat → Option (Nat × Nat)
instance : CoeFun Emb (fun _ => Nat → Option (Nat × Nat)) := ⟨Emb.b⟩

structure Emb.le (E E' : Emb) : Prop where
 b : ∀ b x, E b = some x → E' b = some x
 r : ∀ k j v, E.r k j = some v → E'.r k j = some v
 z : ∀ B o v, E.z B o = some v → E'.z B o = some v
 m : ∀ q i x, E.m q i = some x → E'.m q i = some x
theorem Emb.le.refl (E : Emb) : Emb.le E E := ⟨fun _ _ h => h, fun _ _ _ h => h, fun _ _ _ h => h, fun _ _ _ h => h⟩
theorem Emb.le.trans {E E' E'' : Emb} (h : E.le E') (h' : E'.le E'') : E.le E'' := ⟨fun b x hb => h'.b b x (h.b b x hb), fun k j v hv => h'.r k j v (h.r k j v hv), fun B o v hv => h'.z B o v (h.z B o v hv), fun q i x hx => h'.m q i x (h.m q i x hx)⟩

theorem bB.mono {z z' : Nat → Nat → Option Value} (h : ∀ B o v, z B o = some v → z' B o = some v) : ∀ {d : FD} {v : Value}, bB z d v → bB z' d v
 | .bool _, _, hr => hr
 | .int _ _, _, hr => hr
 | .str _, _, hr => hr
 | .list cs n f, v, hr => by
  obtain ⟨a, c, e1, e2, e3, e4⟩ := hr
  refine ⟨a, c, e1, e2, e3, e4.imp id ?_⟩
  rintro ⟨B, o, ea, hc⟩
  refine ⟨B, o, ea, fun i hi j hj => ?_⟩
  obtain ⟨h1, u, h2, h3⟩ := hc i hi j hj
  exact ⟨h1, u, h _ _ _ h2, bB.mono h h3⟩

def Ref.val (E : Emb) : Ref → Option Value
 | .root k j => E.r k j
 | .elem r c => match r.val E with
  | some (.slice (some ⟨B, o, none⟩) _ _) => E.z B (o + c)
  | _ => none
 | .sub r sz lo n => match r.val E with
  | some (.slice a _ c) => some (.slice (if c = lo then a else a.map (·.add (lo * sz))) n (c - lo))
  | _ => none
theorem Ref.val_mono {E E' : Emb} (h : E.le E') : ∀ {r : Ref} {v : Value}, r.val E = some v → r.val E' = some v
 | .root k j, v, hv => h.r k j v hv
 | .elem r c, v, hv => by
  simp only [Ref.val] at hv ⊢
  split at hv
  ·rename_i B o _ _ hr
   rw [Ref.val_mono h hr]
   exact h.z _ _ _ hv
  ·cases hv
 | .sub r sz lo n, v, hv => by
  simp only [Ref.val] at hv ⊢
  split at hv
  ·rename_i hr
   rw [Ref.val_mono h hr]; exact hv
  ·cases hv
open Classical in
/-- The value of a frozen slice. -/
noncomputable def pH (E : Emb) (r : Ref) (d : FD) : Option Value :=
 match r.val E with
 | some v => if bB E.z d v then some v else none
 | none => none
theorem aI {E : Emb} {r : Ref} {d : FD} {v : Value} : pH E r d = some v ↔ r.val E = some v ∧ bB E.z d v := by
 unfold pH
 cases hr : r.val E with
 | none => simp
 | some u =>
  simp only
  split
  ·constructor
   ·intro h; cases h; exact ⟨rfl, by assumption⟩
   ·rintro ⟨h, _⟩; exact h
  ·constructor
   ·intro h; cases h
   ·rintro ⟨h, h'⟩; cases h; contradiction
theorem JS {E E' : Emb} (h : E.le E') {r : Ref} {d : FD} {v : Value} (hv : pH E r d = some v) : pH E' r d = some v := by
 obtain ⟨h1, h2⟩ := aI.1 hv
 exact aI.2 ⟨Ref.val_mono h h1, h2.mono h.z⟩
open Classical in
noncomputable def oX (E : Emb) (r : Ref) (cs : List Sh) (n : Nat) (f : Nat → Nat → FD) (i j : Nat) : Option Value :=
 match r.val E with
 | some (.slice (some ⟨B, o, none⟩) n' c) => if bB E.z (.list cs n f) (.slice (some ⟨B, o, none⟩) n' c) ∧ i < n then some (.pointer (some ⟨B, o + (i * cs.length + j), none⟩)) else none
 | _ => none
theorem dD {E : Emb} {r : Ref} {cs : List Sh} {n : Nat} {f : Nat → Nat → FD} {i j : Nat} {v : Value} : oX E r cs n f i j = some v ↔
  ∃ B o c, r.val E = some (.slice (some ⟨B, o, none⟩) n c) ∧ bB E.z (.list cs n f) (.slice (some ⟨B, o, none⟩) n c) ∧ i < n ∧ v = .pointer (some ⟨B, o + (i * cs.length + j), none⟩) := by
 unfold oX
 constructor
 ·intro h
  split at h
  ·rename_i B o n' c hr
   split at h
   ·rename_i hh
    cases h
    have : n' = n := by
     obtain ⟨a, c', e, _⟩ := hh.1
     cases e; rfl
    subst this
    exact ⟨B, o, c, hr, hh.1, hh.2, rfl⟩
   ·cases h
  ·cases h
 ·rintro ⟨B, o, c, hr, h1, h2, rfl⟩
  rw [hr]
  simp only
  rw [if_pos ⟨h1, h2⟩]
theorem DL {E E' : Emb} (h : E.le E') {r : Ref} {cs : List Sh} {n : Nat} {f : Nat → Nat → FD} {i j : Nat} {v : Value} (hv : oX E r cs n f i j = some v) : oX E' r cs n f i j = some v := by
 obtain ⟨B, o, c, h1, h2, h3, h4⟩ := dD.1 hv
 exact dD.2 ⟨B, o, c, Ref.val_mono h h1, h2.mono h.z, h3, h4⟩

def bN (E : Emb) (a : Nat × Nat) : Option Addr := (E a.1).map fun B => ⟨B.1, a.2, none⟩
def bO (E : Emb) : List (Nat × Nat) → Option (List Value)
 | [] => some []
 | a :: l => match bN E a, bO E l with
  | some x, some r => some (.pointer (some x) :: r)
  | _, _ => none

noncomputable def Sc.den (η : Env) (E : Emb) : Sc → Option Value
 | .bool b => some (.bool (b.den η))
 | .int k x => some (.int k (x.den η))
 | .flt k f => some (.float k (f.den η))
 | .cpx k f g => some (.complex k (f.den η) (g.den η))
 | .str l => some (.string ⟨l.toArray⟩)
 | .ptr none => some (.pointer none)
 | .ptr (some a) => (bN E a).map fun x => .pointer (some x)
 | .slice none n (.known c) => some (.slice none n c)
 | .slice none _ (.rest _) => none
 | .slice (some a) n (.known c) => (bN E a).map fun x => .slice (some x) n c
 | .slice (some a) n (.rest k) => match E a.1 with
  | some B => if n + k ≤ B.2 then some (.slice (some ⟨B.1, a.2, none⟩) n (B.2 - k)) else none
  | none => none
 | .map none => some (.map none)
 | .map (some b) => (E b).map fun B => .map (some B.1)
 | .fn f caps => (bO E caps).map fun l => .func (.func f) #[] l.toArray
 | .asl b n c => (E b).map fun B => .slice (some ⟨B.1, B.2, none⟩) (n.den η).toNat (η.i c).toNat
 | .aptr b o => (E b).map fun B => .pointer (some ⟨B.1, B.2 + o, none⟩)
 | .nilFn => some .nilFunc
 | .nilIface => some .nilIface
 | .ostr l => some (.string ⟨l.toArray⟩)
 | .fz r d => pH E r d
 | .fptr r cs n f i j => oX E r cs n f i j
 | .own b n => match E b with
  | some B => if n ≤ B.2 then some (.slice (some ⟨B.1, 0, none⟩) n B.2) else none
  | none => none
 | .rptr b sz i j => (E b).map fun B => .pointer (some ⟨B.1, i * sz + j, none⟩)
 | .mown _ q i n => match E.m q i with
  | some B => if n ≤ B.2 then some (.slice (some ⟨B.1, 0, none⟩) n B.2) else none
  | none => none
 | .mptr _ q i j => (E.m q i).map fun B => .pointer (some ⟨B.1, j, none⟩)

noncomputable def aL (η : Env) (E : Emb) : List Sc → Option (List Value)
 | [] => some []
 | c :: l => match c.den η E, aL η E l with
  | some v, some r => some (v :: r)
  | _, _ => none

noncomputable def bP (η : Env) (E : Emb) : Bool × List Sc → Option Value
 | (true, l) => (aL η E l).map fun r => .agg r.toArray
 | (false, [c]) => c.den η E
 | (false, _) => none
noncomputable def aN (η : Env) (E : Emb) : List (Bool × List Sc) → Option (List Value)
 | [] => some []
 | c :: l => match bP η E c, aN η E l with
  | some v, some r => some (v :: r)
  | _, _ => none

noncomputable def Sv.den (η : Env) (E : Emb) : Sv → Option Value
 | .one c => c.den η E
 | .agg l => (aL η E l).map fun r => .agg r.toArray
 | .tup l => (aN η E l).map fun r => .tuple r.toArray
 | .undef => some Go.undef

theorem mB {E E' : Emb} (h : E.le E') {a : Nat × Nat} {x : Addr} (ha : bN E a = some x) : bN E' a = some x := by
 unfold bN at *
 cases he : E a.1 with
 | none => rw [he] at ha; cases ha
 | some B => rw [he] at ha; rw [h.b _ _ he]; exact ha

theorem rR {E E' : Emb} (h : E.le E') : ∀ {l : List (Nat × Nat)} {r}, bO E l = some r → bO E' l = some r
 | [], r, hr => hr
 | a :: l, r, hr => by
  simp only [bO] at hr ⊢
  cases h1 : bN E a with
  | none => simp [h1] at hr
  | some x =>
   cases h2 : bO E l with
   | none => simp [h1, h2] at hr
   | some y => rw [mB h h1, rR h h2]; simpa [h1, h2] using hr

theorem Sc.den_mono {η : Env} {E E' : Emb} (h : E.le E') {c : Sc} {v : Value} (hc : c.den η E = some v) : c.den η E' = some v := by
 cases c with
 | ptr a => cases a with
  | none => exact hc
  | some a =>
   simp only [Sc.den] at hc ⊢
   cases ha : bN E a with
   | none => rw [ha] at hc; cases hc
   | some x => rw [ha] at hc; rw [mB h ha]; exact hc
 | slice a n c =>
  cases a with
  | none => cases c <;> exact hc
  | some a =>
   cases c with
   | known c =>
    simp only [Sc.den] at hc ⊢
    cases ha : bN E a with
    | none => rw [ha] at hc; cases hc
    | some x => rw [ha] at hc; rw [mB h ha]; exact hc
   | rest k =>
    simp only [Sc.den] at hc ⊢
    cases he : E a.1 with
    | none => rw [he] at hc; cases hc
    | some B => rw [he] at hc; rw [h.b _ _ he]; exact hc
 | map r => cases r with
  | none => exact hc
  | some b =>
   simp only [Sc.den] at hc ⊢
   cases he : E b with
   | none => rw [he] at hc; cases hc
   | some B => rw [he] at hc; rw [h.b _ _ he]; exact hc
 | asl b n c =>
  simp only [Sc.den] at hc ⊢
  cases he : E b with
  | none => rw [he] at hc; cases hc
  | some B => rw [he] at hc; rw [h.b _ _ he]; exact hc
 | aptr b o =>
  simp only [Sc.den] at hc ⊢
  cases he : E b with
  | none => rw [he] at hc; cases hc
  | some B => rw [he] at hc; rw [h.b _ _ he]; exact hc
 | fn f caps =>
  simp only [Sc.den] at hc ⊢
  cases he : bO E caps with
  | none => rw [he] at hc; cases hc
  | some l => rw [he] at hc; rw [rR h he]; exact hc
 | fz r d => exact JS h hc
 | fptr r cs n f i j => exact DL h hc
 | own b n =>
  simp only [Sc.den] at hc ⊢
  cases he : E b with
  | none => rw [he] at hc; cases hc
  | some B => rw [he] at hc; rw [h.b _ _ he]; exact hc
 | rptr b sz i j =>
  simp only [Sc.den] at hc ⊢
  cases he : E b with
  | none => rw [he] at hc; cases hc
  | some B => rw [he] at hc; rw [h.b _ _ he]; exact hc
 | mown b q i n =>
  simp only [Sc.den] at hc ⊢
  cases he : E.m q i with
  | none => rw [he] at hc; cases hc
  | some B => rw [he] at hc; rw [h.m _ _ _ he]; exact hc
 | mptr b q i j =>
  simp only [Sc.den] at hc ⊢
  cases he : E.m q i with
  | none => rw [he] at hc; cases hc
  | some B => rw [he] at hc; rw [h.m _ _ _ he]; exact hc
 | _ => exact hc

theorem fA {η : Env} {E E' : Emb} (h : E.le E') : ∀ {l : List Sc} {r}, aL η E l = some r → aL η E' l = some r
 | [], r, hr => hr
 | c :: l, r, hr => by
  simp only [aL] at hr ⊢
  cases h1 : c.den η E with
  | none => simp [h1] at hr
  | some x =>
   cases h2 : aL η E l with
   | none => simp [h1, h2] at hr
   | some y => rw [Sc.den_mono h h1, fA h h2]; simpa [h1, h2] using hr

theorem DM {η : Env} {E E' : Emb} (h : E.le E') {c : Bool × List Sc} {v : Value} (hc : bP η E c = some v) : bP η E' c = some v := by
 unfold bP at *
 split at hc
 ·rename_i l
  cases h2 : aL η E l with
  | none => rw [h2] at hc; cases hc
  | some y => rw [h2] at hc; rw [fA h h2]; exact hc
 ·exact Sc.den_mono h hc
 ·cases hc

theorem pI {η : Env} {E E' : Emb} (h : E.le E') : ∀ {l : List (Bool × List Sc)} {r}, aN η E l = some r → aN η E' l = some r
 | [], r, hr => hr
 | c :: l, r, hr => by
  simp only [aN] at hr ⊢
  cases h1 : bP η E c with
  | none => simp [h1] at hr
  | some x =>
   cases h2 : aN η E l with
   | none => simp [h1, h2] at hr
   | some y => rw [DM h h1, pI h h2]; simpa [h1, h2] using hr

theorem Sv.den_mono {η : Env} {E E' : Emb} (h : E.le E') {c : Sv} {v : Value} (hc : c.den η E = some v) : c.den η E' = some v := by
 cases c with
 | one c => exact Sc.den_mono h hc
 | agg l =>
  simp only [Sv.den] at hc ⊢
  cases h2 : aL η E l with
  | none => rw [h2] at hc; cases hc
  | some y => rw [h2] at hc; rw [fA h h2]; exact hc
 | tup l =>
  simp only [Sv.den] at hc ⊢
  cases h2 : aN η E l with
  | none => rw [h2] at hc; cases hc
  | some y => rw [h2] at hc; rw [pI h h2]; exact hc
 | undef => exact hc

/-! ## Trees of forks -/
inductive aA (α : Type) where
 | leaf (a : α)
 | fork (a : fE) (t f : aA α)
 | fail

def aA.bind {α β : Type} : aA α → (α → aA β) → aA β
 | .leaf a, k => k a
 | .fork a t f, k => .fork a (t.bind k) (f.bind k)
 | .fail, _ => .fail

/-- The leaf that a run with these values comes to. -/
def aA.at_ {α : Type} (η : Env) : aA α → Option α
 | .leaf a => some a
 | .fork a t f => if a.den η then t.at_ η else f.at_ η
 | .fail => none

theorem aA.at_bind {α β : Type} {η : Env} {k : α → aA β} {b : β} : ∀ {t : aA α}, (t.bind k).at_ η = some b → ∃ a, t.at_ η = some a ∧ (k a).at_ η = some b
 | .leaf a, h => ⟨a, rfl, h⟩
 | .fork a t f, h => by
  simp only [aA.bind, aA.at_] at h ⊢
  split at h
  ·obtain ⟨x, h1, h2⟩ := aA.at_bind h; exact ⟨x, by simp [*], h2⟩
  ·obtain ⟨x, h1, h2⟩ := aA.at_bind h; exact ⟨x, by simp [*], h2⟩
 | .fail, h => by simp [aA.bind, aA.at_] at h

/-- Every leaf passes. -/
def aA.all {α : Type} (ok : α → Bool) : aA α → Bool
 | .leaf a => ok a
 | .fork _ t f => t.all ok && f.all ok
 | .fail => false

/-! ## Deciding tests -/
/-- How tests are decided by what is known, and which polynomials are known to fit an int. -/
structure Dec where
 dec : PC → fE → Option Bool
 fits : PC → dC → Bool
structure Dec.Ok (D : Dec) (η : Env) : Prop where
 dec : ∀ pc a b, D.dec pc a = some b → pc.holds η → a.den η = b
 fits : ∀ pc p, D.fits pc p = true → pc.holds η → wr (evP η.i p) = evP η.i p

def dE {α : Type} (D : Dec) (pc : PC) (b : Bx) (k : Bool → PC → aA α) : aA α :=
 match b with
 | .lit x => k x pc
 | .at_ neg a => match D.dec pc a with
  | some v => k (v ^^ neg) pc
  | none => .fork a (k (!neg) ((a, true) :: pc)) (k neg ((a, false) :: pc))

theorem bD {α : Type} {D : Dec} {η : Env} (hD : D.Ok η) {pc : PC} (hpc : pc.holds η) {b : Bx} {k : Bool → PC → aA α} {x : α}
  (h : (dE D pc b k).at_ η = some x) : ∃ pc', pc'.holds η ∧ (k (b.den η) pc').at_ η = some x := by
 unfold dE at h
 split at h
 ·exact ⟨pc, hpc, h⟩
 ·rename_i neg a
  split at h
  ·rename_i v hv
   refine ⟨pc, hpc, ?_⟩
   simp only [Bx.den, hD.dec pc a v hv hpc]; exact h
  ·simp only [aA.at_] at h
   simp only [Bx.den]
   cases ha : a.den η with
   | true =>
    simp only [ha, if_true] at h
    refine ⟨(a, true) :: pc, ?_, by simpa using h⟩
    intro y hy
    cases hy with
    | head => exact ha
    | tail _ hm => exact hpc y hm
   | false =>
    simp only [ha] at h
    refine ⟨(a, false) :: pc, ?_, by simpa using h⟩
    intro y hy
    cases hy with
    | head => exact ha
    | tail _ hm => exact hpc y hm

end Go.Ex

