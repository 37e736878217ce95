/-
  That the tables of a seat are right: equality of flat arrays and structs; how a table is shown right.
-/
import Derived.Test.YtdpabnfcfakjeaaEx21
import Derived.Test.YtdpabnfcfakjeaaExTab
import Derived.Laws.StructEq
import Derived.ChangeKeysEq

namespace Go.Ex
open Go Go.RowKit

def leafD : LK → TypeDesc → Bool
  | .int, .int _ => true
  | .flt, .float _ => true
  | .cpx, .complex _ => true
  | .str, .string => true
  | .bool, .bool => true
  | _, _ => false

theorem run_leafEq {P : Program} {k : LK} {e : TypeId} {d : TypeDesc} (hu : P.underlying e = some d) (hd : leafD k d = true) (m : Nat) {x y : Value} (hf : k.fits x y = true) (w : World) :
    (Op.equalIn (m + 1) e x y).run P w = .ok (leafEq x y) w := by
  cases k <;> cases d <;> first | cases hd | skip
  all_goals (cases x <;> first | cases hf | (cases y <;> first | cases hf | skip))
  all_goals (try simp only [LK.fits, beq_iff_eq] at hf)
  all_goals (try subst hf)
  all_goals (simp [Op.equalIn, run_underlying hu, leafEq])

theorem run_leafPart {P : Program} {k : LK} {e : TypeId} {d : TypeDesc} (hu : P.underlying e = some d) (hd : leafD k d = true) {xs : Array Value} {off : Nat} {v : Value} (hx : xs[off]? = some v) (w : World) : (part e xs off).run P w = .ok v w := by
  cases k <;> cases d <;> first | cases hd | skip
  all_goals (simp [part, isAgg, run_underlying hu, hx])

theorem run_eqItems_flat {P : Program} {k : LK} {e : TypeId} {d : TypeDesc} (hu : P.underlying e = some d) (hd : leafD k d = true) (m : Nat) (xs ys : Array Value) (w : World) : ∀ (n s : Nat) (l r : List Value), (∀ j, l[j]? = xs[s + j]?) → (∀ j, r[j]? = ys[s + j]?) → leavesFit (List.replicate n k) l r = true →
    (Op.eqItems (m + 1) e 1 xs ys (List.range' s n)).run P w = .ok (leavesEq l r) w
  | 0, s, l, r, _, _, h => by
    cases l with
    | nil => cases r with
      | nil => simp [Op.eqItems, leavesEq]
      | cons y r => simp [leavesFit] at h
    | cons x l => cases r <;> simp [leavesFit] at h
  | n + 1, s, l, r, hl, hr, h => by
    cases l with
    | nil => simp [List.replicate_succ, leavesFit] at h
    | cons x l => cases r with
      | nil => simp [List.replicate_succ, leavesFit] at h
      | cons y r =>
        simp only [List.replicate_succ, leavesFit, Bool.and_eq_true] at h
        have hx : xs[s]? = some x := by simpa using (hl 0).symm
        have hy : ys[s]? = some y := by simpa using (hr 0).symm
        have ih := run_eqItems_flat hu hd m xs ys w n (s + 1) l r (fun j => by have := hl (j + 1); simpa [Nat.add_assoc, Nat.add_comm 1 j] using this) (fun j => by have := hr (j + 1); simpa [Nat.add_assoc, Nat.add_comm 1 j] using this) h.2
        simp only [List.range'_succ, Op.eqItems, Nat.mul_one, Sem.run_bind, run_leafPart hu hd hx, run_leafPart hu hd hy, run_leafEq hu hd m h.1, Result.andThen_ok, leavesEq]
        cases leafEq x y with
        | false => simp
        | true => simpa using ih

theorem info_at {P : Program} {t : TypeId} {i : TypeInfo} (h : P.types[t]? = some i) : P.info? t = some i := by
  have hlt : t < P.types.size := (Array.getElem?_eq_some_iff.1 h).1
  unfold Tables.info?
  rw [if_pos hlt]; exact h

theorem eqOK_arr {P : Program} {t e : TypeId} {n : Nat} {d : TypeDesc} {i : TypeInfo} {k : LK} (hg : P.eqGuardType P.depth t = false) (hu : P.underlying t = some (.array n e)) (hi : P.types[e]? = some i) (hs : i.size = 1) (hue : P.underlying e = some d) (hd : leafD k d = true) :
    EqOK P t (List.replicate n k) := by
  refine ⟨hg, fun xs ys w h => ?_⟩
  have hi := info_at hi
  rw [show (10000 : Nat) = 9998 + 1 + 1 from rfl, run_equalIn_array w _ _ _ hu hi]
  have hc : P.cellsOf e = 1 := by simp [Program.cellsOf, hi, hs]
  rw [hc, List.range_eq_range']
  exact run_eqItems_flat hue hd 9998 _ _ w n 0 xs ys (by simp) (by simp) h

def flatF (P : Program) : Nat → List Field → List LK → Prop
  | _, [], [] => True
  | off, f :: fs, k :: ks => f.name ≠ "_" ∧ f.offset = off ∧ (∃ d, P.underlying f.type = some d ∧ leafD k d = true) ∧ flatF P (off + 1) fs ks
  | _, _, _ => False

theorem run_eqFields_flat {P : Program} (m : Nat) (xs ys : Array Value) (w : World) : ∀ (fs : List Field) (ks : List LK) (off : Nat) (l r : List Value), flatF P off fs ks → (∀ j, l[j]? = xs[off + j]?) → (∀ j, r[j]? = ys[off + j]?) → leavesFit ks l r = true →
    (Op.eqFields (m + 1) xs ys fs).run P w = .ok (leavesEq l r) w
  | [], ks, off, l, r, hf, _, _, h => by
    cases ks with
    | cons k ks => exact hf.elim
    | nil =>
      cases l with
      | nil => cases r with
        | nil => simp [Op.eqFields, leavesEq]
        | cons y r => simp [leavesFit] at h
      | cons x l => cases r <;> simp [leavesFit] at h
  | f :: fs, ks, off, l, r, hf, hl, hr, h => by
    cases ks with
    | nil => exact hf.elim
    | cons k ks =>
      obtain ⟨h1, h2, ⟨d, h3, h4⟩, h5⟩ := hf
      cases l with
      | nil => simp [leavesFit] at h
      | cons x l => cases r with
        | nil => simp [leavesFit] at h
        | cons y r =>
          simp only [leavesFit, Bool.and_eq_true] at h
          have hx : xs[f.offset]? = some x := by rw [h2]; simpa using (hl 0).symm
          have hy : ys[f.offset]? = some y := by rw [h2]; simpa using (hr 0).symm
          have ih := run_eqFields_flat m xs ys w fs ks (off + 1) l r h5 (fun j => by have := hl (j + 1); simpa [Nat.add_assoc, Nat.add_comm 1 j] using this) (fun j => by have := hr (j + 1); simpa [Nat.add_assoc, Nat.add_comm 1 j] using this) h.2
          simp only [Op.eqFields, h1, ne_eq, not_false_eq_true, if_true, Sem.run_bind, run_leafPart h3 h4 hx, run_leafPart h3 h4 hy, run_leafEq h3 h4 m h.1, Result.andThen_ok, leavesEq]
          cases leafEq x y with
          | false => simp
          | true => simpa using ih

theorem eqOK_struct {P : Program} {t : TypeId} {fs : Array Field} {ks : List LK} (hg : P.eqGuardType P.depth t = false) (hu : P.underlying t = some (.struct fs)) (hp : P.stoodInHeld t = false) (hf : flatF P 0 fs.toList ks) : EqOK P t ks := by
  refine ⟨hg, fun xs ys w h => ?_⟩
  have hfs : P.fieldsOf t = fs := by simp [Program.fieldsOf, hu]
  rw [show (10000 : Nat) = 9998 + 1 + 1 from rfl, run_equalIn_struct w _ _ _ _ (by rw [hfs]; exact hu) hp, hfs]
  exact run_eqFields_flat 9998 _ _ w _ ks 0 xs ys hf (by simp) (by simp) h

/-! An array of flat structs. -/
theorem leavesFit_split : ∀ {ks rest : List LK} {l r : List Value}, leavesFit (ks ++ rest) l r = true →
    ∃ l1 l2 r1 r2, l = l1 ++ l2 ∧ r = r1 ++ r2 ∧ l1.length = ks.length ∧ r1.length = ks.length ∧ leavesFit ks l1 r1 = true ∧ leavesFit rest l2 r2 = true
  | [], rest, l, r, h => ⟨[], l, [], r, rfl, rfl, rfl, rfl, rfl, h⟩
  | k :: ks, rest, [], r, h => by simp [leavesFit] at h
  | k :: ks, rest, x :: l, [], h => by simp [leavesFit] at h
  | k :: ks, rest, x :: l, y :: r, h => by
    simp only [List.cons_append, leavesFit, Bool.and_eq_true] at h
    obtain ⟨l1, l2, r1, r2, rfl, rfl, e1, e2, e3, e4⟩ := leavesFit_split h.2
    exact ⟨x :: l1, l2, y :: r1, r2, rfl, rfl, by simp [e1], by simp [e2], by simp [leavesFit, h.1, e3], e4⟩
theorem leavesEq_append : ∀ {l1 r1 l2 r2 : List Value}, l1.length = r1.length → leavesEq (l1 ++ l2) (r1 ++ r2) = (leavesEq l1 r1 && leavesEq l2 r2)
  | [], [], l2, r2, _ => by simp [leavesEq]
  | x :: l, y :: r, l2, r2, h => by
    simp only [List.cons_append, leavesEq, leavesEq_append (l1 := l) (r1 := r) (by simpa using h), Bool.and_assoc]
  | [], _ :: _, _, _, h => by simp at h
  | _ :: _, [], _, _, h => by simp at h

theorem run_partS {P : Program} {e : TypeId} {fs : Array Field} {i : TypeInfo} {c : Nat} (hu : P.underlying e = some (.struct fs)) (hi : P.info? e = some i) (hs : i.size = c) {xs : Array Value} {off : Nat} {l1 l2 : List Value} (hx : xs.toList.drop off = l1 ++ l2) (hl : l1.length = c) (w : World) :
    (part e xs off).run P w = .ok (.agg l1.toArray) w := by
  have e1 : xs.extract off (off + c) = l1.toArray := by
    apply Array.toList_inj.1
    simp [hx, ← hl]
  have hc : P.cellsOf e = c := by simp [Program.cellsOf, hi, hs]
  simp [part, isAgg, run_underlying hu, run_sizeOf w hi, hc, e1]

theorem run_eqItems_S {P : Program} {e : TypeId} {fs : Array Field} {i : TypeInfo} {ks : List LK} (hu : P.underlying e = some (.struct fs)) (hp : P.stoodInHeld e = false) (hi : P.info? e = some i) (hs : i.size = ks.length) (hf : flatF P 0 fs.toList ks) (m : Nat) (xs ys : Array Value) (w : World) :
    ∀ (n s : Nat) (l r : List Value), xs.toList.drop (s * ks.length) = l → ys.toList.drop (s * ks.length) = r → leavesFit (List.replicate n ks).flatten l r = true →
    (Op.eqItems (m + 2) e ks.length xs ys (List.range' s n)).run P w = .ok (leavesEq l r) w
  | 0, s, l, r, _, _, h => by
    cases l <;> cases r <;> simp [leavesFit] at h
    simp [Op.eqItems, leavesEq]
  | n + 1, s, l, r, hl, hr, h => by
    simp only [List.replicate_succ, List.flatten_cons] at h
    obtain ⟨l1, l2, r1, r2, rfl, rfl, e1, e2, e3, e4⟩ := leavesFit_split h
    have hfs : P.fieldsOf e = fs := by simp [Program.fieldsOf, hu]
    have h1 : (Op.equalIn (m + 2) e (.agg l1.toArray) (.agg r1.toArray)).run P w = .ok (leavesEq l1 r1) w := by
      rw [run_equalIn_struct w _ _ _ _ (by rw [hfs]; exact hu) hp, hfs]
      exact run_eqFields_flat m _ _ w _ ks 0 l1 r1 hf (by simp) (by simp) e3
    have ih := run_eqItems_S hu hp hi hs hf m xs ys w n (s + 1) l2 r2 (by rw [Nat.add_mul, Nat.one_mul, ← List.drop_drop, hl, ← e1, List.drop_left]) (by rw [Nat.add_mul, Nat.one_mul, ← List.drop_drop, hr, ← e2, List.drop_left]) e4
    simp only [List.range'_succ, Op.eqItems, Sem.run_bind, run_partS hu hi hs hl e1, run_partS hu hi hs hr e2, h1, Result.andThen_ok]
    rw [leavesEq_append (by rw [e1, e2])]
    cases leavesEq l1 r1 with
    | false => simp
    | true => simpa using ih

theorem eqOK_arrS {P : Program} {t e : TypeId} {n : Nat} {fs : Array Field} {i : TypeInfo} {ks : List LK} (hg : P.eqGuardType P.depth t = false) (hu : P.underlying t = some (.array n e)) (hi : P.types[e]? = some i) (hs : i.size = ks.length) (hue : P.underlying e = some (.struct fs)) (hp : P.stoodInHeld e = false) (hf : flatF P 0 fs.toList ks) :
    EqOK P t (List.replicate n ks).flatten := by
  refine ⟨hg, fun xs ys w h => ?_⟩
  have hi := info_at hi
  rw [show (10000 : Nat) = 9997 + 2 + 1 from rfl, run_equalIn_array w _ _ _ hu hi]
  have hc : P.cellsOf e = ks.length := by simp [Program.cellsOf, hi, hs]
  rw [hc, List.range_eq_range']
  exact run_eqItems_S hue hp hi hs hf 9997 _ _ w n 0 xs ys (by simp) (by simp) h

/-- How an entry of the table of types is shown right. -/
theorem TI.ok_of {P : Program} {t : TypeId} {x : TI} {i : TypeInfo} {z : Value} {d : TypeDesc} (hu : P.underlying t = some d) (hd' : x.d = d) (hi : P.types[t]? = some i) (hs : i.size = x.size) (hb : i.bytes = x.bytes) (hz : i.zero = some z) (hd : ∀ η E, denL η E x.zero = some z.cells.toList) (hc : z.cells.size = x.size)
    (ha : x.agg = isAggD x.d) (h1 : x.agg = true → z = .agg z.cells) (h2 : x.agg = false → z.cells = #[z] ∧ z.oneCell' = true) (he : ∀ ks, x.eqs = some ks → EqOK P t ks) : TI.Ok P t x :=
  ⟨by rw [hd']; exact hu, ⟨i, z, info_at hi, hs, hb, hz, hd, hc, h1, h2⟩, ha, he⟩

theorem eqs_none {P : Program} {t : TypeId} {x : TI} (h : x.eqs = none) : ∀ ks, x.eqs = some ks → EqOK P t ks := fun ks hk => by rw [h] at hk; cases hk
theorem eqs_some {P : Program} {t : TypeId} {x : TI} {l : List LK} (h : x.eqs = some l) (hl : EqOK P t l) : ∀ ks, x.eqs = some ks → EqOK P t ks := fun ks hk => by rw [h] at hk; cases hk; exact hl

/-- A table made of a list of right entries is right. -/
theorem table_ok {α : Type} {Q : Nat → α → Prop} {l : List (Nat × α)} {t : T α} (ht : t = T.ofList l) (hl : (l.all fun p => Nat.blt p.1 65535) = true) (hq : ∀ p ∈ l, Q p.1 p.2) : ∀ i x, t.get i = some x → Q i x := by
  intro i x h
  subst ht
  have := T.get_ofList (fun p hp => Nat.le_of_ble_eq_true (List.all_eq_true.1 hl p hp)) h
  exact hq _ this

theorem FI.ok_of {P : Program} {f : FuncId} {fn : Func} {q : Bool} (h : P.funcs[f]? = some fn) (hb : fn.body.isSome = true) (hn : (fn.name == "runtime.NumGoroutine") = false) : FI.Ok P f (FI.of fn q) := by
  refine ⟨fn, h, ?_, rfl, rfl, hn⟩
  simp only [FI.of, bodyOf]
  cases hc : fn.body with
  | none => rw [hc] at hb; cases hb
  | some c => rfl

end Go.Ex

