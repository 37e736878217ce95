/-
 That the tables of a seat are right: equality of flat arrays and structs; how a table is shown right.
-/
import Derived.Test.YtdpabnfcfakjeaaEx21
import Derived.Test.YtdpabnfcfakjeaaExTab
import Derived.Laws.StructEq
import Derived.ChangeKeysEq

namespace Go.Ex
open Go Go.RowKit

def GW : LK → TypeDesc → Bool
 | .int, .int _ => true
 | .flt, .float _ => true
 | .cpx, .complex _ => true
 | .str, .string => true
 | .bool, .bool => true
 | _, _ => false

theorem yD {P : Program} {k : LK} {e : TypeId} {d : TypeDesc} (hu : P.underlying e = some d) (hd : GW k d = true) (m : Nat) {x y : Value} (hf : k.fits x y = true) (w : World) :
  (Op.equalIn (m + 1) e x y).run P w = .ok (tK x y) w := by
 cases k <;> cases d <;> first | cases hd | skip
 all_goals (cases x <;> first | cases hf | (cases y <;> first | cases hf | skip))
 all_goals (try simp only [LK.fits, beq_iff_eq] at hf)
 all_goals (try subst hf)
 all_goals (simp [Op.equalIn, run_underlying hu, tK])

theorem jF {P : Program} {k : LK} {e : TypeId} {d : TypeDesc} (hu : P.underlying e = some d) (hd : GW k d = true) {xs : Array Value} {off : Nat} {v : Value} (hx : xs[off]? = some v) (w : World) : (part e xs off).run P w = .ok v w := by
 cases k <;> cases d <;> first | cases hd | skip
 all_goals (simp [part, isAgg, run_underlying hu, hx])

theorem lJ {P : Program} {k : LK} {e : TypeId} {d : TypeDesc} (hu : P.underlying e = some d) (hd : GW k d = true) (m : Nat) (xs ys : Array Value) (w : World) : ∀ (n s : Nat) (l r : List Value), (∀ j, l[j]? = xs[s + j]?) → (∀ j, r[j]? = ys[s + j]?) → cE (List.replicate n k) l r = true →
  (Op.eqItems (m + 1) e 1 xs ys (List.range' s n)).run P w = .ok (fJ l r) w
 | 0, s, l, r, _, _, h => by
  cases l with
  | nil => cases r with
   | nil => simp [Op.eqItems, fJ]
   | cons y r => simp [cE] at h
  | cons x l => cases r <;> simp [cE] at h
 | n + 1, s, l, r, hl, hr, h => by
  cases l with
  | nil => simp [List.replicate_succ, cE] at h
  | cons x l => cases r with
   | nil => simp [List.replicate_succ, cE] at h
   | cons y r =>
    simp only [List.replicate_succ, cE, Bool.and_eq_true] at h
    have hx : xs[s]? = some x := by simpa using (hl 0).symm
    have hy : ys[s]? = some y := by simpa using (hr 0).symm
    have ih := lJ hu hd m xs ys w n (s + 1) l r (fun j => by have := hl (j + 1); simpa [Nat.add_assoc, Nat.add_comm 1 j] using this) (fun j => by have := hr (j + 1); simpa [Nat.add_assoc, Nat.add_comm 1 j] using this) h.2
    simp only [List.range'_succ, Op.eqItems, Nat.mul_one, Sem.run_bind, jF hu hd hx, jF hu hd hy, yD hu hd m h.1, Result.andThen_ok, fJ]
    cases tK x y with
    | false => simp
    | true => simpa using ih

theorem MU {P : Program} {t : TypeId} {i : TypeInfo} (h : P.types[t]? = some i) : P.info? t = some i := by
 have hlt : t < P.types.size := (Array.getElem?_eq_some_iff.1 h).1
 unfold Tables.info?
 rw [if_pos hlt]; exact h

theorem PZ {P : Program} {t e : TypeId} {n : Nat} {d : TypeDesc} {i : TypeInfo} {k : LK} (hg : P.eqGuardType P.depth t = false) (hu : P.underlying t = some (.array n e)) (hi : P.types[e]? = some i) (hs : i.size = 1) (hue : P.underlying e = some d) (hd : GW k d = true) :
  KE P t (List.replicate n k) := by
 refine ⟨hg, fun xs ys w h => ?_⟩
 have hi := MU hi
 rw [show (10000 : Nat) = 9998 + 1 + 1 from rfl, run_equalIn_array w _ _ _ hu hi]
 have hc : P.cellsOf e = 1 := by simp [Program.cellsOf, hi, hs]
 rw [hc, List.range_eq_range']
 exact lJ hue hd 9998 _ _ w n 0 xs ys (by simp) (by simp) h

def P0 (P : Program) : Nat → List Field → List LK → Prop
 | _, [], [] => True
 | off, f :: fs, k :: ks => f.name ≠ "_" ∧ f.offset = off ∧ (∃ d, P.underlying f.type = some d ∧ GW k d = true) ∧ P0 P (off + 1) fs ks
 | _, _, _ => False

theorem kI {P : Program} (m : Nat) (xs ys : Array Value) (w : World) : ∀ (fs : List Field) (ks : List LK) (off : Nat) (l r : List Value), P0 P off fs ks → (∀ j, l[j]? = xs[off + j]?) → (∀ j, r[j]? = ys[off + j]?) → cE ks l r = true →
  (Op.eqFields (m + 1) xs ys fs).run P w = .ok (fJ l r) w
 | [], ks, off, l, r, hf, _, _, h => by
  cases ks with
  | cons k ks => exact hf.elim
  | nil =>
   cases l with
   | nil => cases r with
    | nil => simp [Op.eqFields, fJ]
    | cons y r => simp [cE] at h
   | cons x l => cases r <;> simp [cE] at h
 | f :: fs, ks, off, l, r, hf, hl, hr, h => by
  cases ks with
  | nil => exact hf.elim
  | cons k ks =>
   obtain ⟨h1, h2, ⟨d, h3, h4⟩, h5⟩ := hf
   cases l with
   | nil => simp [cE] at h
   | cons x l => cases r with
    | nil => simp [cE] at h
    | cons y r =>
     simp only [cE, Bool.and_eq_true] at h
     have hx : xs[f.offset]? = some x := by rw [h2]; simpa using (hl 0).symm
     have hy : ys[f.offset]? = some y := by rw [h2]; simpa using (hr 0).symm
     have ih := kI m xs ys w fs ks (off + 1) l r h5 (fun j => by have := hl (j + 1); simpa [Nat.add_assoc, Nat.add_comm 1 j] using this) (fun j => by have := hr (j + 1); simpa [Nat.add_assoc, Nat.add_comm 1 j] using this) h.2
     simp only [Op.eqFields, h1, ne_eq, not_false_eq_true, if_true, Sem.run_bind, jF h3 h4 hx, jF h3 h4 hy, yD h3 h4 m h.1, Result.andThen_ok, fJ]
     cases tK x y with
     | false => simp
     | true => simpa using ih

theorem u7 {P : Program} {t : TypeId} {fs : Array Field} {ks : List LK} (hg : P.eqGuardType P.depth t = false) (hu : P.underlying t = some (.struct fs)) (hp : P.stoodInHeld t = false) (hf : P0 P 0 fs.toList ks) : KE P t ks := by
 refine ⟨hg, fun xs ys w h => ?_⟩
 have hfs : P.fieldsOf t = fs := by simp [Program.fieldsOf, hu]
 rw [show (10000 : Nat) = 9998 + 1 + 1 from rfl, run_equalIn_struct w _ _ _ _ (by rw [hfs]; exact hu) hp, hfs]
 exact kI 9998 _ _ w _ ks 0 xs ys hf (by simp) (by simp) h

/-! An array of flat structs. -/
/-- How an entry of the table of types is shown right. -/
theorem TI.ok_of {P : Program} {t : TypeId} {x : TI} {i : TypeInfo} {z : Value} {d : TypeDesc} (hu : P.underlying t = some d) (hd' : x.d = d) (hi : P.types[t]? = some i) (hs : i.size = x.size) (hb : i.bytes = x.bytes) (hz : i.zero = some z) (hd : ∀ η E, aL η E x.zero = some z.cells.toList) (hc : z.cells.size = x.size)
  (ha : x.agg = D7 x.d) (h1 : x.agg = true → z = .agg z.cells) (h2 : x.agg = false → z.cells = #[z] ∧ z.oneCell' = true) (he : ∀ ks, x.eqs = some ks → KE P t ks) : TI.Ok P t x :=
 ⟨by rw [hd']; exact hu, ⟨i, z, MU hi, hs, hb, hz, hd, hc, h1, h2⟩, ha, he⟩

theorem aF {P : Program} {t : TypeId} {x : TI} (h : x.eqs = none) : ∀ ks, x.eqs = some ks → KE P t ks := fun ks hk => by rw [h] at hk; cases hk
theorem yE {P : Program} {t : TypeId} {x : TI} {l : List LK} (h : x.eqs = some l) (hl : KE P t l) : ∀ ks, x.eqs = some ks → KE P t ks := fun ks hk => by rw [h] at hk; cases hk; exact hl

/-- A table made of a list of right entries is right. -/
theorem GX {α : Type} {Q : Nat → α → Prop} {l : List (Nat × α)} {t : T α} (ht : t = T.ofList l) (hl : (l.all fun p => Nat.blt p.1 65535) = true) (hq : ∀ p ∈ l, Q p.1 p.2) : ∀ i x, t.get i = some x → Q i x := by
 intro i x h
 subst ht
 have := T.get_ofList (fun p hp => Nat.le_of_ble_eq_true (List.all_eq_true.1 hl p hp)) h
 exact hq _ this

theorem FI.ok_of {P : Program} {f : FuncId} {fn : Func} {q : Bool} (h : P.funcs[f]? = some fn) (hb : fn.body.isSome = true) (hn : (fn.name == "runtime.NumGoroutine") = false) : FI.Ok P f (FI.of fn q) := by
 refine ⟨fn, h, ?_, rfl, rfl, hn⟩
 simp only [FI.of, QT]
 cases hc : fn.body with
 | none => rw [hc] at hb; cases hb
 | some c => rfl

end Go.Ex

