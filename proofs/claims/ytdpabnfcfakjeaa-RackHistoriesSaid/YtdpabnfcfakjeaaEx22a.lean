/-
  That the tables of a seat are right: equality of flat arrays and structs; how a table is shown right.
-/
/- The tables of the executor for this seat, by program (mkcx.py). -/
import Derived.Test.YtdpabnfcfakjeaaEx21
import Derived.Test.YtdpabnfcfakjeaaExTab
import Derived.Laws.StructEq
import Derived.ChangeKeysEq
import Derived.KernelRfl
import Derived.Test.YtdpabnfcfakjeaaProg

namespace Go.Ex
open Go Go.RowKit

def leafD : LK → TypeDesc → Bool
  | .int, .int _ => true
  | .flt, .float _ => true
  | .cpx, .complex _ => true
  | .str, .string => true
  | .bool, .bool => true
  | _, _ => false

theorem run_leafEq {P : Program} {k : LK} {e : TypeId} {d : TypeDesc} (hu : P.underlying e = some d) (hd : leafD k d = true) (m : Nat) {x y : Value} (hf : k.fits x y = true) (w : World) :
    (Op.equalIn (m + 1) e x y).run P w = .ok (leafEq x y) w := by
  cases k <;> cases d <;> first | cases hd | skip
  all_goals (cases x <;> first | cases hf | (cases y <;> first | cases hf | skip))
  all_goals (try simp only [LK.fits, beq_iff_eq] at hf)
  all_goals (try subst hf)
  all_goals (simp [Op.equalIn, run_underlying hu, leafEq])

theorem run_leafPart {P : Program} {k : LK} {e : TypeId} {d : TypeDesc} (hu : P.underlying e = some d) (hd : leafD k d = true) {xs : Array Value} {off : Nat} {v : Value} (hx : xs[off]? = some v) (w : World) : (part e xs off).run P w = .ok v w := by
  cases k <;> cases d <;> first | cases hd | skip
  all_goals (simp [part, isAgg, run_underlying hu, hx])

theorem run_eqItems_flat {P : Program} {k : LK} {e : TypeId} {d : TypeDesc} (hu : P.underlying e = some d) (hd : leafD k d = true) (m : Nat) (xs ys : Array Value) (w : World) : ∀ (n s : Nat) (l r : List Value), (∀ j, l[j]? = xs[s + j]?) → (∀ j, r[j]? = ys[s + j]?) → leavesFit (List.replicate n k) l r = true →
    (Op.eqItems (m + 1) e 1 xs ys (List.range' s n)).run P w = .ok (leavesEq l r) w
  | 0, s, l, r, _, _, h => by
    cases l with
    | nil => cases r with
      | nil => simp [Op.eqItems, leavesEq]
      | cons y r => simp [leavesFit] at h
    | cons x l => cases r <;> simp [leavesFit] at h
  | n + 1, s, l, r, hl, hr, h => by
    cases l with
    | nil => simp [List.replicate_succ, leavesFit] at h
    | cons x l => cases r with
      | nil => simp [List.replicate_succ, leavesFit] at h
      | cons y r =>
        simp only [List.replicate_succ, leavesFit, Bool.and_eq_true] at h
        have hx : xs[s]? = some x := by simpa using (hl 0).symm
        have hy : ys[s]? = some y := by simpa using (hr 0).symm
        have ih := run_eqItems_flat hu hd m xs ys w n (s + 1) l r (fun j => by have := hl (j + 1); simpa [Nat.add_assoc, Nat.add_comm 1 j] using this) (fun j => by have := hr (j + 1); simpa [Nat.add_assoc, Nat.add_comm 1 j] using this) h.2
        simp only [List.range'_succ, Op.eqItems, Nat.mul_one, Sem.run_bind, run_leafPart hu hd hx, run_leafPart hu hd hy, run_leafEq hu hd m h.1, Result.andThen_ok, leavesEq]
        cases leafEq x y with
        | false => simp
        | true => simpa using ih

theorem info_at {P : Program} {t : TypeId} {i : TypeInfo} (h : P.types[t]? = some i) : P.info? t = some i := by
  have hlt : t < P.types.size := (Array.getElem?_eq_some_iff.1 h).1
  unfold Tables.info?
  rw [if_pos hlt]; exact h

theorem eqOK_arr {P : Program} {t e : TypeId} {n : Nat} {d : TypeDesc} {i : TypeInfo} {k : LK} (hg : P.eqGuardType P.depth t = false) (hu : P.underlying t = some (.array n e)) (hi : P.types[e]? = some i) (hs : i.size = 1) (hue : P.underlying e = some d) (hd : leafD k d = true) :
    EqOK P t (List.replicate n k) := by
  refine ⟨hg, fun xs ys w h => ?_⟩
  have hi := info_at hi
  rw [show (10000 : Nat) = 9998 + 1 + 1 from rfl, run_equalIn_array w _ _ _ hu hi]
  have hc : P.cellsOf e = 1 := by simp [Program.cellsOf, hi, hs]
  rw [hc, List.range_eq_range']
  exact run_eqItems_flat hue hd 9998 _ _ w n 0 xs ys (by simp) (by simp) h

def flatF (P : Program) : Nat → List Field → List LK → Prop
  | _, [], [] => True
  | off, f :: fs, k :: ks => f.name ≠ "_" ∧ f.offset = off ∧ (∃ d, P.underlying f.type = some d ∧ leafD k d = true) ∧ flatF P (off + 1) fs ks
  | _, _, _ => False

theorem run_eqFields_flat {P : Program} (m : Nat) (xs ys : Array Value) (w : World) : ∀ (fs : List Field) (ks : List LK) (off : Nat) (l r : List Value), flatF P off fs ks → (∀ j, l[j]? = xs[off + j]?) → (∀ j, r[j]? = ys[off + j]?) → leavesFit ks l r = true →
    (Op.eqFields (m + 1) xs ys fs).run P w = .ok (leavesEq l r) w
  | [], ks, off, l, r, hf, _, _, h => by
    cases ks with
    | cons k ks => exact hf.elim
    | nil =>
      cases l with
      | nil => cases r with
        | nil => simp [Op.eqFields, leavesEq]
        | cons y r => simp [leavesFit] at h
      | cons x l => cases r <;> simp [leavesFit] at h
  | f :: fs, ks, off, l, r, hf, hl, hr, h => by
    cases ks with
    | nil => exact hf.elim
    | cons k ks =>
      obtain ⟨h1, h2, ⟨d, h3, h4⟩, h5⟩ := hf
      cases l with
      | nil => simp [leavesFit] at h
      | cons x l => cases r with
        | nil => simp [leavesFit] at h
        | cons y r =>
          simp only [leavesFit, Bool.and_eq_true] at h
          have hx : xs[f.offset]? = some x := by rw [h2]; simpa using (hl 0).symm
          have hy : ys[f.offset]? = some y := by rw [h2]; simpa using (hr 0).symm
          have ih := run_eqFields_flat m xs ys w fs ks (off + 1) l r h5 (fun j => by have := hl (j + 1); simpa [Nat.add_assoc, Nat.add_comm 1 j] using this) (fun j => by have := hr (j + 1); simpa [Nat.add_assoc, Nat.add_comm 1 j] using this) h.2
          simp only [Op.eqFields, h1, ne_eq, not_false_eq_true, if_true, Sem.run_bind, run_leafPart h3 h4 hx, run_leafPart h3 h4 hy, run_leafEq h3 h4 m h.1, Result.andThen_ok, leavesEq]
          cases leafEq x y with
          | false => simp
          | true => simpa using ih

theorem eqOK_struct {P : Program} {t : TypeId} {fs : Array Field} {ks : List LK} (hg : P.eqGuardType P.depth t = false) (hu : P.underlying t = some (.struct fs)) (hp : P.stoodInHeld t = false) (hf : flatF P 0 fs.toList ks) : EqOK P t ks := by
  refine ⟨hg, fun xs ys w h => ?_⟩
  have hfs : P.fieldsOf t = fs := by simp [Program.fieldsOf, hu]
  rw [show (10000 : Nat) = 9998 + 1 + 1 from rfl, run_equalIn_struct w _ _ _ _ (by rw [hfs]; exact hu) hp, hfs]
  exact run_eqFields_flat 9998 _ _ w _ ks 0 xs ys hf (by simp) (by simp) h

/-! An array of flat structs. -/
/-- How an entry of the table of types is shown right. -/
theorem TI.ok_of {P : Program} {t : TypeId} {x : TI} {i : TypeInfo} {z : Value} {d : TypeDesc} (hu : P.underlying t = some d) (hd' : x.d = d) (hi : P.types[t]? = some i) (hs : i.size = x.size) (hb : i.bytes = x.bytes) (hz : i.zero = some z) (hd : ∀ η E, denL η E x.zero = some z.cells.toList) (hc : z.cells.size = x.size)
    (ha : x.agg = isAggD x.d) (h1 : x.agg = true → z = .agg z.cells) (h2 : x.agg = false → z.cells = #[z] ∧ z.oneCell' = true) (he : ∀ ks, x.eqs = some ks → EqOK P t ks) : TI.Ok P t x :=
  ⟨by rw [hd']; exact hu, ⟨i, z, info_at hi, hs, hb, hz, hd, hc, h1, h2⟩, ha, he⟩

theorem eqs_none {P : Program} {t : TypeId} {x : TI} (h : x.eqs = none) : ∀ ks, x.eqs = some ks → EqOK P t ks := fun ks hk => by rw [h] at hk; cases hk
theorem eqs_some {P : Program} {t : TypeId} {x : TI} {l : List LK} (h : x.eqs = some l) (hl : EqOK P t l) : ∀ ks, x.eqs = some ks → EqOK P t ks := fun ks hk => by rw [h] at hk; cases hk; exact hl

/-- A table made of a list of right entries is right. -/
theorem table_ok {α : Type} {Q : Nat → α → Prop} {l : List (Nat × α)} {t : T α} (ht : t = T.ofList l) (hl : (l.all fun p => Nat.blt p.1 65535) = true) (hq : ∀ p ∈ l, Q p.1 p.2) : ∀ i x, t.get i = some x → Q i x := by
  intro i x h
  subst ht
  have := T.get_ofList (fun p hp => Nat.le_of_ble_eq_true (List.all_eq_true.1 hl p hp)) h
  exact hq _ this

theorem FI.ok_of {P : Program} {f : FuncId} {fn : Func} {q : Bool} (h : P.funcs[f]? = some fn) (hb : fn.body.isSome = true) (hn : (fn.name == "runtime.NumGoroutine") = false) : FI.Ok P f (FI.of fn q) := by
  refine ⟨fn, h, ?_, rfl, rfl, hn⟩
  simp only [FI.of, bodyOf]
  cases hc : fn.body with
  | none => rw [hc] at hb; cases hb
  | some c => rfl

end Go.Ex


namespace Go.Ex
open Go Go.Proofs
namespace Try
noncomputable def x3 : TI := ⟨Go.TypeDesc.int Go.IntKind.i64, 1, 8, [.int .i64 (.lit 0)], false, none⟩
noncomputable def x4 : TI := ⟨Go.TypeDesc.bool, 1, 1, [.bool (.lit false)], false, none⟩
noncomputable def x5 : TI := ⟨Go.TypeDesc.int Go.IntKind.u8, 1, 1, [.int .u8 (.lit 0)], false, none⟩
noncomputable def x9 : TI := ⟨Go.TypeDesc.string, 1, 16, [.str []], false, none⟩
noncomputable def x22 : TI := ⟨Go.TypeDesc.slice 3, 1, 24, [.slice none 0 (.known 0)], false, none⟩
noncomputable def x25 : TI := ⟨Try.t24.desc, 2, 16, [.int .i64 (.lit 0), .int .i64 (.lit 0)], true, (some [.int, .int])⟩
noncomputable def x26 : TI := ⟨Go.TypeDesc.int Go.IntKind.i64, 1, 8, [.int .i64 (.lit 0)], false, none⟩
noncomputable def x33 : TI := ⟨Go.TypeDesc.slice 143, 1, 24, [.slice none 0 (.known 0)], false, none⟩
noncomputable def x35 : TI := ⟨Try.t34.desc, 2, 32, [.slice none 0 (.known 0), .int .i64 (.lit 0)], true, none⟩
noncomputable def x38 : TI := ⟨Try.t37.desc, 2, 48, [.slice none 0 (.known 0), .slice none 0 (.known 0)], true, none⟩
noncomputable def x47 : TI := ⟨Try.t46.desc, 4, 32, [.int .i64 (.lit 0), .int .i64 (.lit 0), .int .i64 (.lit 0), .int .i64 (.lit 0)], true, none⟩
noncomputable def x48 : TI := ⟨Go.TypeDesc.slice 22, 1, 24, [.slice none 0 (.known 0)], false, none⟩
noncomputable def x50 : TI := ⟨Try.t49.desc, 5, 56, [.int .i64 (.lit 0), .int .i64 (.lit 0), .int .i64 (.lit 0), .int .i64 (.lit 0), .slice none 0 (.known 0)], true, none⟩
noncomputable def x58 : TI := ⟨Try.t57.desc, 3, 40, [.slice none 0 (.known 0), .int .i64 (.lit 0), .int .i64 (.lit 0)], true, none⟩
noncomputable def x61 : TI := ⟨Try.t60.desc, 2, 32, [.int .i64 (.lit 0), .slice none 0 (.known 0)], true, none⟩
noncomputable def x63 : TI := ⟨Try.t62.desc, 4, 80, [.int .i64 (.lit 0), .slice none 0 (.known 0), .slice none 0 (.known 0), .slice none 0 (.known 0)], true, none⟩
noncomputable def x64 : TI := ⟨Go.TypeDesc.array 2 3, 2, 16, [.int .i64 (.lit 0), .int .i64 (.lit 0)], true, (some (List.replicate 2 .int))⟩
noncomputable def x75 : TI := ⟨Try.t74.desc, 3, 24, [.int .i64 (.lit 0), .int .i64 (.lit 0), .int .i64 (.lit 0)], true, none⟩
noncomputable def x83 : TI := ⟨Try.t82.desc, 3, 24, [.int .i64 (.lit 0), .int .i64 (.lit 0), .int .i64 (.lit 0)], true, none⟩
noncomputable def x114 : TI := ⟨Try.t113.desc, 3, 72, [.slice none 0 (.known 0), .slice none 0 (.known 0), .slice none 0 (.known 0)], true, none⟩
noncomputable def x120 : TI := ⟨Go.TypeDesc.slice 145, 1, 24, [.slice none 0 (.known 0)], false, none⟩
noncomputable def x124 : TI := ⟨Try.t123.desc, 3, 32, [.str [], .bool (.lit false), .int .i64 (.lit 0)], true, (some [.str, .bool, .int])⟩
noncomputable def x127 : TI := ⟨Go.TypeDesc.slice 9, 1, 24, [.slice none 0 (.known 0)], false, none⟩
noncomputable def x141 : TI := ⟨Go.TypeDesc.func #[9] #[4] Bool.false, 1, 8, [.nilFn], false, none⟩
noncomputable def x143 : TI := ⟨Try.t142.desc, 2, 40, [.str [], .slice none 0 (.known 0)], true, none⟩
noncomputable def x145 : TI := ⟨Try.t144.desc, 3, 40, [.int .i64 (.lit 0), .str [], .str []], true, none⟩
noncomputable def x150 : TI := ⟨Go.TypeDesc.func #[3] #[4] Bool.false, 1, 8, [.nilFn], false, none⟩
noncomputable def x155 : TI := ⟨Go.TypeDesc.pointer 158, 1, 8, [.ptr none], false, none⟩
noncomputable def x158 : TI := ⟨Try.t157.desc, 4, 80, [.slice none 0 (.known 0), .int .i64 (.lit 0), .slice none 0 (.known 0), .slice none 0 (.known 0)], true, none⟩
noncomputable def x160 : TI := ⟨Go.TypeDesc.slice 4, 1, 24, [.slice none 0 (.known 0)], false, none⟩
noncomputable def x165 : TI := ⟨Try.t164.desc, 6, 48, [.int .i64 (.lit 0), .int .i64 (.lit 0), .int .i64 (.lit 0), .int .i64 (.lit 0), .int .i64 (.lit 0), .int .i64 (.lit 0)], true, none⟩
noncomputable def x168 : TI := ⟨Go.TypeDesc.slice 180, 1, 24, [.slice none 0 (.known 0)], false, none⟩
noncomputable def x170 : TI := ⟨Go.TypeDesc.array 4 3, 4, 32, [.int .i64 (.lit 0), .int .i64 (.lit 0), .int .i64 (.lit 0), .int .i64 (.lit 0)], true, none⟩
noncomputable def x171 : TI := ⟨Go.TypeDesc.array 4 170, 16, 128, [.int .i64 (.lit 0), .int .i64 (.lit 0), .int .i64 (.lit 0), .int .i64 (.lit 0), .int .i64 (.lit 0), .int .i64 (.lit 0), .int .i64 (.lit 0), .int .i64 (.lit 0), .int .i64 (.lit 0), .int .i64 (.lit 0), .int .i64 (.lit 0), .int .i64 (.lit 0), .int .i64 (.lit 0), .int .i64 (.lit 0), .int .i64 (.lit 0), .int .i64 (.lit 0)], true, none⟩
noncomputable def x173 : TI := ⟨Try.t172.desc, 18, 160, [.slice none 0 (.known 0), .int .i64 (.lit 0), .int .i64 (.lit 0), .int .i64 (.lit 0), .int .i64 (.lit 0), .int .i64 (.lit 0), .int .i64 (.lit 0), .int .i64 (.lit 0), .int .i64 (.lit 0), .int .i64 (.lit 0), .int .i64 (.lit 0), .int .i64 (.lit 0), .int .i64 (.lit 0), .int .i64 (.lit 0), .int .i64 (.lit 0), .int .i64 (.lit 0), .int .i64 (.lit 0), .int .i64 (.lit 0)], true, none⟩
noncomputable def x177 : TI := ⟨Go.TypeDesc.func #[168] #[4] Bool.false, 1, 8, [.nilFn], false, none⟩
noncomputable def x180 : TI := ⟨Try.t179.desc, 7, 56, [.int .i64 (.lit 0), .int .i64 (.lit 0), .int .i64 (.lit 0), .int .i64 (.lit 0), .int .i64 (.lit 0), .int .i64 (.lit 0), .int .i64 (.lit 0)], true, none⟩
noncomputable def x189 : TI := ⟨Go.TypeDesc.map 9 4, 1, 8, [.map none], false, none⟩
noncomputable def x191 : TI := ⟨Go.TypeDesc.pointer 196, 1, 8, [.ptr none], false, none⟩
noncomputable def x194 : TI := ⟨Go.TypeDesc.map 9 124, 1, 8, [.map none], false, none⟩
noncomputable def x196 : TI := ⟨Try.t195.desc, 2, 32, [.map none, .slice none 0 (.known 0)], true, none⟩
noncomputable def x198 : TI := ⟨Go.TypeDesc.func #[145] #[4] Bool.false, 1, 8, [.nilFn], false, none⟩
noncomputable def x200 : TI := ⟨Go.TypeDesc.func #[9, 124] #[4] Bool.false, 1, 8, [.nilFn], false, none⟩
noncomputable def x203 : TI := ⟨Go.TypeDesc.int Go.IntKind.u64, 1, 8, [.int .u64 (.lit 0)], false, none⟩
noncomputable def x211 : TI := ⟨Go.TypeDesc.func #[180] #[4] Bool.false, 1, 8, [.nilFn], false, none⟩
noncomputable def x212 : TI := ⟨Go.TypeDesc.slice 26, 1, 24, [.slice none 0 (.known 0)], false, none⟩
noncomputable def x216 : TI := ⟨Go.TypeDesc.int Go.IntKind.u32, 1, 4, [.int .u32 (.lit 0)], false, none⟩
noncomputable def x219 : TI := ⟨Go.TypeDesc.int Go.IntKind.u64, 1, 8, [.int .u64 (.lit 0)], false, none⟩
noncomputable def tl : List (Nat × TI) := [(3, x3), (4, x4), (5, x5), (9, x9), (22, x22), (25, x25), (26, x26), (33, x33), (35, x35), (38, x38), (47, x47), (48, x48), (50, x50), (58, x58), (61, x61), (63, x63), (64, x64), (75, x75), (83, x83), (114, x114), (120, x120), (124, x124), (127, x127), (141, x141), (143, x143), (145, x145), (150, x150), (155, x155), (158, x158), (160, x160), (165, x165), (168, x168), (170, x170), (171, x171), (173, x173), (177, x177), (180, x180), (189, x189), (191, x191), (194, x194), (196, x196), (198, x198), (200, x200), (203, x203), (211, x211), (212, x212), (216, x216), (219, x219)]
noncomputable def fl : List (Nat × FI) := [(3, FI.of Try.f3 true), (4, FI.of Try.f4 true), (5, FI.of Try.f5 true), (6, FI.of Try.f6 true), (7, FI.of Try.f7 true), (8, FI.of Try.f8 true), (9, FI.of Try.f9 true), (10, FI.of Try.f10 true), (11, FI.of Try.f11 true), (12, FI.of Try.f12 true), (13, FI.of Try.f13 true), (14, FI.of Try.f14 true), (15, FI.of Try.f15 true), (16, FI.of Try.f16 true), (17, FI.of Try.f17 true), (18, FI.of Try.f18 true), (19, FI.of Try.f19 true), (20, FI.of Try.f20 false), (21, FI.of Try.f21 true), (22, FI.of Try.f22 true), (23, FI.of Try.f23 false), (24, FI.of Try.f24 false), (25, FI.of Try.f25 true), (26, FI.of Try.f26 true), (27, FI.of Try.f27 true), (28, FI.of Try.f28 true), (29, FI.of Try.f29 true), (30, FI.of Try.f30 true), (31, FI.of Try.f31 true), (32, FI.of Try.f32 false), (33, FI.of Try.f33 false), (34, FI.of Try.f34 true), (35, FI.of Try.f35 false), (36, FI.of Try.f36 false), (37, FI.of Try.f37 true), (38, FI.of Try.f38 true), (39, FI.of Try.f39 false), (40, FI.of Try.f40 true), (41, FI.of Try.f41 true), (42, FI.of Try.f42 true), (43, FI.of Try.f43 true), (44, FI.of Try.f44 true), (45, FI.of Try.f45 true), (46, FI.of Try.f46 true), (47, FI.of Try.f47 true), (48, FI.of Try.f48 true), (49, FI.of Try.f49 true), (50, FI.of Try.f50 true), (51, FI.of Try.f51 false), (52, FI.of Try.f52 false), (53, FI.of Try.f53 true), (54, FI.of Try.f54 true), (55, FI.of Try.f55 false), (56, FI.of Try.f56 true), (57, FI.of Try.f57 false), (58, FI.of Try.f58 true), (59, FI.of Try.f59 true), (60, FI.of Try.f60 true), (61, FI.of Try.f61 true), (62, FI.of Try.f62 false), (63, FI.of Try.f63 true), (64, FI.of Try.f64 true), (65, FI.of Try.f65 true), (66, FI.of Try.f66 false), (67, FI.of Try.f67 true), (68, FI.of Try.f68 true), (69, FI.of Try.f69 true), (70, FI.of Try.f70 true), (71, FI.of Try.f71 false), (72, FI.of Try.f72 true), (73, FI.of Try.f73 true), (74, FI.of Try.f74 true), (75, FI.of Try.f75 false), (76, FI.of Try.f76 false), (77, FI.of Try.f77 true), (78, FI.of Try.f78 true), (79, FI.of Try.f79 false), (80, FI.of Try.f80 false), (81, FI.of Try.f81 true), (82, FI.of Try.f82 true), (83, FI.of Try.f83 true), (84, FI.of Try.f84 true), (85, FI.of Try.f85 false), (86, FI.of Try.f86 true), (87, FI.of Try.f87 true), (88, FI.of Try.f88 true), (89, FI.of Try.f89 true), (90, FI.of Try.f90 true), (91, FI.of Try.f91 true), (92, FI.of Try.f92 true), (93, FI.of Try.f93 true), (94, FI.of Try.f94 false), (95, FI.of Try.f95 false), (96, FI.of Try.f96 true), (97, FI.of Try.f97 true), (98, FI.of Try.f98 true), (99, FI.of Try.f99 false), (100, FI.of Try.f100 true), (101, FI.of Try.f101 true), (102, FI.of Try.f102 false), (103, FI.of Try.f103 false), (104, FI.of Try.f104 false), (105, FI.of Try.f105 false), (106, FI.of Try.f106 true), (107, FI.of Try.f107 false), (108, FI.of Try.f108 true), (109, FI.of Try.f109 true), (110, FI.of Try.f110 true), (111, FI.of Try.f111 true), (112, FI.of Try.f112 true), (113, FI.of Try.f113 true), (114, FI.of Try.f114 true), (115, FI.of Try.f115 true), (116, FI.of Try.f116 true), (117, FI.of Try.f117 true), (118, FI.of Try.f118 true), (119, FI.of Try.f119 true), (120, FI.of Try.f120 true), (121, FI.of Try.f121 true), (122, FI.of Try.f122 false), (123, FI.of Try.f123 true), (124, FI.of Try.f124 true), (125, FI.of Try.f125 true), (126, FI.of Try.f126 true), (127, FI.of Try.f127 true), (128, FI.of Try.f128 true), (129, FI.of Try.f129 true), (130, FI.of Try.f130 true), (131, FI.of Try.f131 true), (132, FI.of Try.f132 false), (133, FI.of Try.f133 true), (134, FI.of Try.f134 true), (135, FI.of Try.f135 true), (136, FI.of Try.f136 true), (137, FI.of Try.f137 true), (138, FI.of Try.f138 true), (139, FI.of Try.f139 true), (140, FI.of Try.f140 true), (141, FI.of Try.f141 true), (142, FI.of Try.f142 true), (143, FI.of Try.f143 false), (144, FI.of Try.f144 false), (145, FI.of Try.f145 true), (146, FI.of Try.f146 true), (147, FI.of Try.f147 true), (148, FI.of Try.f148 true), (149, FI.of Try.f149 true), (150, FI.of Try.f150 false), (151, FI.of Try.f151 false), (152, FI.of Try.f152 true), (153, FI.of Try.f153 true), (154, FI.of Try.f154 true), (155, FI.of Try.f155 true), (156, FI.of Try.f156 false), (157, FI.of Try.f157 true), (158, FI.of Try.f158 false), (159, FI.of Try.f159 true), (160, FI.of Try.f160 false), (161, FI.of Try.f161 true)]
noncomputable def tt : T TI := (.node (.node (.node (.node (.node (.node (.node (.node .nil (some x127) .nil) (some x63) (.node .nil (some x191) .nil)) none .nil) none (.node (.node (.node .nil (some x143) .nil) none .nil) (some x47) .nil)) none .nil) (some x3) (.node (.node (.node .nil (some x35) .nil) none (.node (.node .nil (some x83) (.node .nil (some x211) .nil)) none .nil)) none (.node (.node (.node .nil (some x75) (.node .nil (some x203) .nil)) none (.node (.node .nil (some x171) .nil) none .nil)) none (.node (.node (.node .nil (some x155) .nil) none (.node .nil (some x219) .nil)) none .nil)))) none (.node (.node (.node (.node .nil (some x33) .nil) none (.node (.node (.node .nil (some x145) .nil) none .nil) none (.node (.node .nil (some x177) .nil) none .nil))) (some x9) (.node .nil (some x25) .nil)) (some x5) (.node (.node (.node .nil none (.node (.node .nil (some x165) .nil) none .nil)) none .nil) none (.node (.node (.node (.node .nil (some x141) .nil) none .nil) none (.node (.node .nil (some x173) .nil) none .nil)) none (.node .nil (some x61) (.node (.node .nil (some x189) .nil) none .nil)))))) none (.node (.node (.node (.node (.node (.node .nil (some x64) .nil) none (.node (.node .nil (some x160) .nil) none .nil)) none (.node .nil (some x48) .nil)) none (.node (.node (.node .nil none (.node .nil (some x200) .nil)) none (.node (.node .nil (some x168) .nil) none .nil)) none (.node (.node .nil none (.node .nil (some x216) .nil)) none (.node .nil (some x120) .nil)))) (some x4) (.node (.node (.node (.node .nil none (.node .nil (some x196) .nil)) none .nil) none (.node (.node .nil none (.node .nil (some x212) .nil)) none (.node (.node .nil (some x180) .nil) none .nil))) none (.node .nil none (.node .nil none (.node .nil (some x124) .nil))))) none (.node (.node (.node (.node (.node .nil none (.node .nil (some x194) .nil)) none .nil) none (.node .nil (some x50) (.node .nil (some x114) .nil))) none (.node (.node .nil none (.node (.node .nil (some x170) .nil) none .nil)) (some x26) (.node .nil (some x58) .nil))) none (.node (.node (.node (.node .nil none (.node .nil (some x198) .nil)) (some x38) .nil) (some x22) (.node (.node (.node .nil (some x150) .nil) none .nil) none .nil)) none (.node .nil none (.node (.node (.node .nil (some x158) .nil) none .nil) none .nil))))))
noncomputable def ft : T FI := (.node (.node (.node (.node (.node (.node (.node (.node .nil (some (FI.of Try.f127 true)) .nil) (some (FI.of Try.f63 true)) .nil) (some (FI.of Try.f31 true)) (.node (.node .nil (some (FI.of Try.f159 true)) .nil) (some (FI.of Try.f95 false)) .nil)) (some (FI.of Try.f15 true)) (.node (.node (.node .nil (some (FI.of Try.f143 false)) .nil) (some (FI.of Try.f79 false)) .nil) (some (FI.of Try.f47 true)) (.node .nil (some (FI.of Try.f111 true)) .nil))) (some (FI.of Try.f7 true)) (.node (.node (.node (.node .nil (some (FI.of Try.f135 true)) .nil) (some (FI.of Try.f71 false)) .nil) (some (FI.of Try.f39 false)) (.node .nil (some (FI.of Try.f103 false)) .nil)) (some (FI.of Try.f23 false)) (.node (.node (.node .nil (some (FI.of Try.f151 false)) .nil) (some (FI.of Try.f87 true)) .nil) (some (FI.of Try.f55 false)) (.node .nil (some (FI.of Try.f119 true)) .nil)))) (some (FI.of Try.f3 true)) (.node (.node (.node (.node (.node .nil (some (FI.of Try.f131 true)) .nil) (some (FI.of Try.f67 true)) .nil) (some (FI.of Try.f35 false)) (.node .nil (some (FI.of Try.f99 false)) .nil)) (some (FI.of Try.f19 true)) (.node (.node (.node .nil (some (FI.of Try.f147 true)) .nil) (some (FI.of Try.f83 true)) .nil) (some (FI.of Try.f51 false)) (.node .nil (some (FI.of Try.f115 true)) .nil))) (some (FI.of Try.f11 true)) (.node (.node (.node (.node .nil (some (FI.of Try.f139 true)) .nil) (some (FI.of Try.f75 false)) .nil) (some (FI.of Try.f43 true)) (.node .nil (some (FI.of Try.f107 false)) .nil)) (some (FI.of Try.f27 true)) (.node (.node (.node .nil (some (FI.of Try.f155 true)) .nil) (some (FI.of Try.f91 true)) .nil) (some (FI.of Try.f59 true)) (.node .nil (some (FI.of Try.f123 true)) .nil))))) none (.node (.node (.node (.node (.node (.node .nil (some (FI.of Try.f129 true)) .nil) (some (FI.of Try.f65 true)) .nil) (some (FI.of Try.f33 false)) (.node (.node .nil (some (FI.of Try.f161 true)) .nil) (some (FI.of Try.f97 true)) .nil)) (some (FI.of Try.f17 true)) (.node (.node (.node .nil (some (FI.of Try.f145 true)) .nil) (some (FI.of Try.f81 true)) .nil) (some (FI.of Try.f49 true)) (.node .nil (some (FI.of Try.f113 true)) .nil))) (some (FI.of Try.f9 true)) (.node (.node (.node (.node .nil (some (FI.of Try.f137 true)) .nil) (some (FI.of Try.f73 true)) .nil) (some (FI.of Try.f41 true)) (.node .nil (some (FI.of Try.f105 false)) .nil)) (some (FI.of Try.f25 true)) (.node (.node (.node .nil (some (FI.of Try.f153 true)) .nil) (some (FI.of Try.f89 true)) .nil) (some (FI.of Try.f57 false)) (.node .nil (some (FI.of Try.f121 true)) .nil)))) (some (FI.of Try.f5 true)) (.node (.node (.node (.node (.node .nil (some (FI.of Try.f133 true)) .nil) (some (FI.of Try.f69 true)) .nil) (some (FI.of Try.f37 true)) (.node .nil (some (FI.of Try.f101 true)) .nil)) (some (FI.of Try.f21 true)) (.node (.node (.node .nil (some (FI.of Try.f149 true)) .nil) (some (FI.of Try.f85 false)) .nil) (some (FI.of Try.f53 true)) (.node .nil (some (FI.of Try.f117 true)) .nil))) (some (FI.of Try.f13 true)) (.node (.node (.node (.node .nil (some (FI.of Try.f141 true)) .nil) (some (FI.of Try.f77 true)) .nil) (some (FI.of Try.f45 true)) (.node .nil (some (FI.of Try.f109 true)) .nil)) (some (FI.of Try.f29 true)) (.node (.node (.node .nil (some (FI.of Try.f157 true)) .nil) (some (FI.of Try.f93 true)) .nil) (some (FI.of Try.f61 true)) (.node .nil (some (FI.of Try.f125 true)) .nil)))))) none (.node (.node (.node (.node (.node (.node (.node .nil (some (FI.of Try.f128 true)) .nil) (some (FI.of Try.f64 true)) .nil) (some (FI.of Try.f32 false)) (.node (.node .nil (some (FI.of Try.f160 false)) .nil) (some (FI.of Try.f96 true)) .nil)) (some (FI.of Try.f16 true)) (.node (.node (.node .nil (some (FI.of Try.f144 false)) .nil) (some (FI.of Try.f80 false)) .nil) (some (FI.of Try.f48 true)) (.node .nil (some (FI.of Try.f112 true)) .nil))) (some (FI.of Try.f8 true)) (.node (.node (.node (.node .nil (some (FI.of Try.f136 true)) .nil) (some (FI.of Try.f72 true)) .nil) (some (FI.of Try.f40 true)) (.node .nil (some (FI.of Try.f104 false)) .nil)) (some (FI.of Try.f24 false)) (.node (.node (.node .nil (some (FI.of Try.f152 true)) .nil) (some (FI.of Try.f88 true)) .nil) (some (FI.of Try.f56 true)) (.node .nil (some (FI.of Try.f120 true)) .nil)))) (some (FI.of Try.f4 true)) (.node (.node (.node (.node (.node .nil (some (FI.of Try.f132 false)) .nil) (some (FI.of Try.f68 true)) .nil) (some (FI.of Try.f36 false)) (.node .nil (some (FI.of Try.f100 true)) .nil)) (some (FI.of Try.f20 false)) (.node (.node (.node .nil (some (FI.of Try.f148 true)) .nil) (some (FI.of Try.f84 true)) .nil) (some (FI.of Try.f52 false)) (.node .nil (some (FI.of Try.f116 true)) .nil))) (some (FI.of Try.f12 true)) (.node (.node (.node (.node .nil (some (FI.of Try.f140 true)) .nil) (some (FI.of Try.f76 false)) .nil) (some (FI.of Try.f44 true)) (.node .nil (some (FI.of Try.f108 true)) .nil)) (some (FI.of Try.f28 true)) (.node (.node (.node .nil (some (FI.of Try.f156 false)) .nil) (some (FI.of Try.f92 true)) .nil) (some (FI.of Try.f60 true)) (.node .nil (some (FI.of Try.f124 true)) .nil))))) none (.node (.node (.node (.node (.node (.node .nil (some (FI.of Try.f130 true)) .nil) (some (FI.of Try.f66 false)) .nil) (some (FI.of Try.f34 true)) (.node .nil (some (FI.of Try.f98 true)) .nil)) (some (FI.of Try.f18 true)) (.node (.node (.node .nil (some (FI.of Try.f146 true)) .nil) (some (FI.of Try.f82 true)) .nil) (some (FI.of Try.f50 true)) (.node .nil (some (FI.of Try.f114 true)) .nil))) (some (FI.of Try.f10 true)) (.node (.node (.node (.node .nil (some (FI.of Try.f138 true)) .nil) (some (FI.of Try.f74 true)) .nil) (some (FI.of Try.f42 true)) (.node .nil (some (FI.of Try.f106 true)) .nil)) (some (FI.of Try.f26 true)) (.node (.node (.node .nil (some (FI.of Try.f154 true)) .nil) (some (FI.of Try.f90 true)) .nil) (some (FI.of Try.f58 true)) (.node .nil (some (FI.of Try.f122 false)) .nil)))) (some (FI.of Try.f6 true)) (.node (.node (.node (.node (.node .nil (some (FI.of Try.f134 true)) .nil) (some (FI.of Try.f70 true)) .nil) (some (FI.of Try.f38 true)) (.node .nil (some (FI.of Try.f102 false)) .nil)) (some (FI.of Try.f22 true)) (.node (.node (.node .nil (some (FI.of Try.f150 false)) .nil) (some (FI.of Try.f86 true)) .nil) (some (FI.of Try.f54 true)) (.node .nil (some (FI.of Try.f118 true)) .nil))) (some (FI.of Try.f14 true)) (.node (.node (.node (.node .nil (some (FI.of Try.f142 true)) .nil) (some (FI.of Try.f78 true)) .nil) (some (FI.of Try.f46 true)) (.node .nil (some (FI.of Try.f110 true)) .nil)) (some (FI.of Try.f30 true)) (.node (.node (.node .nil (some (FI.of Try.f158 false)) .nil) (some (FI.of Try.f94 false)) .nil) (some (FI.of Try.f62 false)) (.node .nil (some (FI.of Try.f126 true)) .nil)))))))
theorem ok3 : TI.Ok Try.prog 3 x3 := TI.ok_of Try.underlying3 rfl Try.type3 rfl rfl rfl (fun _ _ => rfl) rfl rfl (fun h => absurd h (by decide)) (fun _ => ⟨rfl, rfl⟩) (eqs_none rfl)
theorem ok4 : TI.Ok Try.prog 4 x4 := TI.ok_of Try.underlying4 rfl Try.type4 rfl rfl rfl (fun _ _ => rfl) rfl rfl (fun h => absurd h (by decide)) (fun _ => ⟨rfl, rfl⟩) (eqs_none rfl)
theorem ok5 : TI.Ok Try.prog 5 x5 := TI.ok_of Try.underlying5 rfl Try.type5 rfl rfl rfl (fun _ _ => rfl) rfl rfl (fun h => absurd h (by decide)) (fun _ => ⟨rfl, rfl⟩) (eqs_none rfl)
theorem ok9 : TI.Ok Try.prog 9 x9 := TI.ok_of Try.underlying9 rfl Try.type9 rfl rfl rfl (fun _ _ => rfl) rfl rfl (fun h => absurd h (by decide)) (fun _ => ⟨rfl, rfl⟩) (eqs_none rfl)
theorem ok22 : TI.Ok Try.prog 22 x22 := TI.ok_of Try.underlying22 rfl Try.type22 rfl rfl rfl (fun _ _ => rfl) rfl rfl (fun h => absurd h (by decide)) (fun _ => ⟨rfl, rfl⟩) (eqs_none rfl)
theorem ok25 : TI.Ok Try.prog 25 x25 := TI.ok_of Try.underlying25 rfl Try.type25 rfl rfl rfl (fun _ _ => rfl) rfl rfl (fun _ => rfl) (fun h => absurd h (by decide)) (eqs_some rfl (eqOK_struct Try.eqGuardType25 Try.underlying25 Try.stoodInHeld25 ⟨by decide, rfl, ⟨_, Try.underlying3, rfl⟩, ⟨by decide, rfl, ⟨_, Try.underlying3, rfl⟩, True.intro⟩⟩))
theorem ok26 : TI.Ok Try.prog 26 x26 := TI.ok_of Try.underlying26 rfl Try.type26 rfl rfl rfl (fun _ _ => rfl) rfl rfl (fun h => absurd h (by decide)) (fun _ => ⟨rfl, rfl⟩) (eqs_none rfl)
theorem ok33 : TI.Ok Try.prog 33 x33 := TI.ok_of Try.underlying33 rfl Try.type33 rfl rfl rfl (fun _ _ => rfl) rfl rfl (fun h => absurd h (by decide)) (fun _ => ⟨rfl, rfl⟩) (eqs_none rfl)
theorem ok35 : TI.Ok Try.prog 35 x35 := TI.ok_of Try.underlying35 rfl Try.type35 rfl rfl rfl (fun _ _ => rfl) rfl rfl (fun _ => rfl) (fun h => absurd h (by decide)) (eqs_none rfl)
theorem ok38 : TI.Ok Try.prog 38 x38 := TI.ok_of Try.underlying38 rfl Try.type38 rfl rfl rfl (fun _ _ => rfl) rfl rfl (fun _ => rfl) (fun h => absurd h (by decide)) (eqs_none rfl)
theorem ok47 : TI.Ok Try.prog 47 x47 := TI.ok_of Try.underlying47 rfl Try.type47 rfl rfl rfl (fun _ _ => rfl) rfl rfl (fun _ => rfl) (fun h => absurd h (by decide)) (eqs_none rfl)
theorem ok48 : TI.Ok Try.prog 48 x48 := TI.ok_of Try.underlying48 rfl Try.type48 rfl rfl rfl (fun _ _ => rfl) rfl rfl (fun h => absurd h (by decide)) (fun _ => ⟨rfl, rfl⟩) (eqs_none rfl)
theorem ok50 : TI.Ok Try.prog 50 x50 := TI.ok_of Try.underlying50 rfl Try.type50 rfl rfl rfl (fun _ _ => rfl) rfl rfl (fun _ => rfl) (fun h => absurd h (by decide)) (eqs_none rfl)
theorem ok58 : TI.Ok Try.prog 58 x58 := TI.ok_of Try.underlying58 rfl Try.type58 rfl rfl rfl (fun _ _ => rfl) rfl rfl (fun _ => rfl) (fun h => absurd h (by decide)) (eqs_none rfl)
theorem ok61 : TI.Ok Try.prog 61 x61 := TI.ok_of Try.underlying61 rfl Try.type61 rfl rfl rfl (fun _ _ => rfl) rfl rfl (fun _ => rfl) (fun h => absurd h (by decide)) (eqs_none rfl)
theorem ok63 : TI.Ok Try.prog 63 x63 := TI.ok_of Try.underlying63 rfl Try.type63 rfl rfl rfl (fun _ _ => rfl) rfl rfl (fun _ => rfl) (fun h => absurd h (by decide)) (eqs_none rfl)
theorem ok64 : TI.Ok Try.prog 64 x64 := TI.ok_of Try.underlying64 rfl Try.type64 rfl rfl rfl (fun _ _ => rfl) rfl rfl (fun _ => rfl) (fun h => absurd h (by decide)) (eqs_some rfl (eqOK_arr Try.eqGuardType64 Try.underlying64 Try.type3 rfl Try.underlying3 rfl))
theorem ok75 : TI.Ok Try.prog 75 x75 := TI.ok_of Try.underlying75 rfl Try.type75 rfl rfl rfl (fun _ _ => rfl) rfl rfl (fun _ => rfl) (fun h => absurd h (by decide)) (eqs_none rfl)
theorem ok83 : TI.Ok Try.prog 83 x83 := TI.ok_of Try.underlying83 rfl Try.type83 rfl rfl rfl (fun _ _ => rfl) rfl rfl (fun _ => rfl) (fun h => absurd h (by decide)) (eqs_none rfl)
theorem ok114 : TI.Ok Try.prog 114 x114 := TI.ok_of Try.underlying114 rfl Try.type114 rfl rfl rfl (fun _ _ => rfl) rfl rfl (fun _ => rfl) (fun h => absurd h (by decide)) (eqs_none rfl)
theorem ok120 : TI.Ok Try.prog 120 x120 := TI.ok_of Try.underlying120 rfl Try.type120 rfl rfl rfl (fun _ _ => rfl) rfl rfl (fun h => absurd h (by decide)) (fun _ => ⟨rfl, rfl⟩) (eqs_none rfl)
theorem ok124 : TI.Ok Try.prog 124 x124 := TI.ok_of Try.underlying124 rfl Try.type124 rfl rfl rfl (fun _ _ => rfl) rfl rfl (fun _ => rfl) (fun h => absurd h (by decide)) (eqs_some rfl (eqOK_struct Try.eqGuardType124 Try.underlying124 Try.stoodInHeld124 ⟨by decide, rfl, ⟨_, Try.underlying9, rfl⟩, ⟨by decide, rfl, ⟨_, Try.underlying4, rfl⟩, ⟨by decide, rfl, ⟨_, Try.underlying3, rfl⟩, True.intro⟩⟩⟩))
theorem ok127 : TI.Ok Try.prog 127 x127 := TI.ok_of Try.underlying127 rfl Try.type127 rfl rfl rfl (fun _ _ => rfl) rfl rfl (fun h => absurd h (by decide)) (fun _ => ⟨rfl, rfl⟩) (eqs_none rfl)
theorem ok141 : TI.Ok Try.prog 141 x141 := TI.ok_of Try.underlying141 rfl Try.type141 rfl rfl rfl (fun _ _ => rfl) rfl rfl (fun h => absurd h (by decide)) (fun _ => ⟨rfl, rfl⟩) (eqs_none rfl)
theorem ok143 : TI.Ok Try.prog 143 x143 := TI.ok_of Try.underlying143 rfl Try.type143 rfl rfl rfl (fun _ _ => rfl) rfl rfl (fun _ => rfl) (fun h => absurd h (by decide)) (eqs_none rfl)
theorem ok145 : TI.Ok Try.prog 145 x145 := TI.ok_of Try.underlying145 rfl Try.type145 rfl rfl rfl (fun _ _ => rfl) rfl rfl (fun _ => rfl) (fun h => absurd h (by decide)) (eqs_none rfl)
theorem ok150 : TI.Ok Try.prog 150 x150 := TI.ok_of Try.underlying150 rfl Try.type150 rfl rfl rfl (fun _ _ => rfl) rfl rfl (fun h => absurd h (by decide)) (fun _ => ⟨rfl, rfl⟩) (eqs_none rfl)
theorem ok155 : TI.Ok Try.prog 155 x155 := TI.ok_of Try.underlying155 rfl Try.type155 rfl rfl rfl (fun _ _ => rfl) rfl rfl (fun h => absurd h (by decide)) (fun _ => ⟨rfl, rfl⟩) (eqs_none rfl)
theorem ok158 : TI.Ok Try.prog 158 x158 := TI.ok_of Try.underlying158 rfl Try.type158 rfl rfl rfl (fun _ _ => rfl) rfl rfl (fun _ => rfl) (fun h => absurd h (by decide)) (eqs_none rfl)
theorem ok160 : TI.Ok Try.prog 160 x160 := TI.ok_of Try.underlying160 rfl Try.type160 rfl rfl rfl (fun _ _ => rfl) rfl rfl (fun h => absurd h (by decide)) (fun _ => ⟨rfl, rfl⟩) (eqs_none rfl)
theorem ok165 : TI.Ok Try.prog 165 x165 := TI.ok_of Try.underlying165 rfl Try.type165 rfl rfl rfl (fun _ _ => rfl) rfl rfl (fun _ => rfl) (fun h => absurd h (by decide)) (eqs_none rfl)
theorem ok168 : TI.Ok Try.prog 168 x168 := TI.ok_of Try.underlying168 rfl Try.type168 rfl rfl rfl (fun _ _ => rfl) rfl rfl (fun h => absurd h (by decide)) (fun _ => ⟨rfl, rfl⟩) (eqs_none rfl)
theorem ok170 : TI.Ok Try.prog 170 x170 := TI.ok_of Try.underlying170 rfl Try.type170 rfl rfl rfl (fun _ _ => rfl) rfl rfl (fun _ => rfl) (fun h => absurd h (by decide)) (eqs_none rfl)
theorem ok171 : TI.Ok Try.prog 171 x171 := TI.ok_of Try.underlying171 rfl Try.type171 rfl rfl rfl (fun _ _ => rfl) rfl rfl (fun _ => rfl) (fun h => absurd h (by decide)) (eqs_none rfl)
theorem ok173 : TI.Ok Try.prog 173 x173 := TI.ok_of Try.underlying173 rfl Try.type173 rfl rfl rfl (fun _ _ => rfl) rfl rfl (fun _ => rfl) (fun h => absurd h (by decide)) (eqs_none rfl)
theorem ok177 : TI.Ok Try.prog 177 x177 := TI.ok_of Try.underlying177 rfl Try.type177 rfl rfl rfl (fun _ _ => rfl) rfl rfl (fun h => absurd h (by decide)) (fun _ => ⟨rfl, rfl⟩) (eqs_none rfl)
theorem ok180 : TI.Ok Try.prog 180 x180 := TI.ok_of Try.underlying180 rfl Try.type180 rfl rfl rfl (fun _ _ => rfl) rfl rfl (fun _ => rfl) (fun h => absurd h (by decide)) (eqs_none rfl)
theorem ok189 : TI.Ok Try.prog 189 x189 := TI.ok_of Try.underlying189 rfl Try.type189 rfl rfl rfl (fun _ _ => rfl) rfl rfl (fun h => absurd h (by decide)) (fun _ => ⟨rfl, rfl⟩) (eqs_none rfl)
theorem ok191 : TI.Ok Try.prog 191 x191 := TI.ok_of Try.underlying191 rfl Try.type191 rfl rfl rfl (fun _ _ => rfl) rfl rfl (fun h => absurd h (by decide)) (fun _ => ⟨rfl, rfl⟩) (eqs_none rfl)
theorem ok194 : TI.Ok Try.prog 194 x194 := TI.ok_of Try.underlying194 rfl Try.type194 rfl rfl rfl (fun _ _ => rfl) rfl rfl (fun h => absurd h (by decide)) (fun _ => ⟨rfl, rfl⟩) (eqs_none rfl)
theorem ok196 : TI.Ok Try.prog 196 x196 := TI.ok_of Try.underlying196 rfl Try.type196 rfl rfl rfl (fun _ _ => rfl) rfl rfl (fun _ => rfl) (fun h => absurd h (by decide)) (eqs_none rfl)
theorem ok198 : TI.Ok Try.prog 198 x198 := TI.ok_of Try.underlying198 rfl Try.type198 rfl rfl rfl (fun _ _ => rfl) rfl rfl (fun h => absurd h (by decide)) (fun _ => ⟨rfl, rfl⟩) (eqs_none rfl)
theorem ok200 : TI.Ok Try.prog 200 x200 := TI.ok_of Try.underlying200 rfl Try.type200 rfl rfl rfl (fun _ _ => rfl) rfl rfl (fun h => absurd h (by decide)) (fun _ => ⟨rfl, rfl⟩) (eqs_none rfl)
theorem ok203 : TI.Ok Try.prog 203 x203 := TI.ok_of Try.underlying203 rfl Try.type203 rfl rfl rfl (fun _ _ => rfl) rfl rfl (fun h => absurd h (by decide)) (fun _ => ⟨rfl, rfl⟩) (eqs_none rfl)
theorem ok211 : TI.Ok Try.prog 211 x211 := TI.ok_of Try.underlying211 rfl Try.type211 rfl rfl rfl (fun _ _ => rfl) rfl rfl (fun h => absurd h (by decide)) (fun _ => ⟨rfl, rfl⟩) (eqs_none rfl)
theorem ok212 : TI.Ok Try.prog 212 x212 := TI.ok_of Try.underlying212 rfl Try.type212 rfl rfl rfl (fun _ _ => rfl) rfl rfl (fun h => absurd h (by decide)) (fun _ => ⟨rfl, rfl⟩) (eqs_none rfl)
theorem ok216 : TI.Ok Try.prog 216 x216 := TI.ok_of Try.underlying216 rfl Try.type216 rfl rfl rfl (fun _ _ => rfl) rfl rfl (fun h => absurd h (by decide)) (fun _ => ⟨rfl, rfl⟩) (eqs_none rfl)
theorem ok219 : TI.Ok Try.prog 219 x219 := TI.ok_of Try.underlying219 rfl Try.type219 rfl rfl rfl (fun _ _ => rfl) rfl rfl (fun h => absurd h (by decide)) (fun _ => ⟨rfl, rfl⟩) (eqs_none rfl)
theorem tt_ok : ∀ t x, tt.get t = some x → TI.Ok Try.prog t x := table_ok (Q := fun t x => TI.Ok Try.prog t x) (l := tl) (by kernel_rfl) (by kernel_rfl) (List.forall_mem_cons.2 ⟨ok3, (List.forall_mem_cons.2 ⟨ok4, (List.forall_mem_cons.2 ⟨ok5, (List.forall_mem_cons.2 ⟨ok9, (List.forall_mem_cons.2 ⟨ok22, (List.forall_mem_cons.2 ⟨ok25, (List.forall_mem_cons.2 ⟨ok26, (List.forall_mem_cons.2 ⟨ok33, (List.forall_mem_cons.2 ⟨ok35, (List.forall_mem_cons.2 ⟨ok38, (List.forall_mem_cons.2 ⟨ok47, (List.forall_mem_cons.2 ⟨ok48, (List.forall_mem_cons.2 ⟨ok50, (List.forall_mem_cons.2 ⟨ok58, (List.forall_mem_cons.2 ⟨ok61, (List.forall_mem_cons.2 ⟨ok63, (List.forall_mem_cons.2 ⟨ok64, (List.forall_mem_cons.2 ⟨ok75, (List.forall_mem_cons.2 ⟨ok83, (List.forall_mem_cons.2 ⟨ok114, (List.forall_mem_cons.2 ⟨ok120, (List.forall_mem_cons.2 ⟨ok124, (List.forall_mem_cons.2 ⟨ok127, (List.forall_mem_cons.2 ⟨ok141, (List.forall_mem_cons.2 ⟨ok143, (List.forall_mem_cons.2 ⟨ok145, (List.forall_mem_cons.2 ⟨ok150, (List.forall_mem_cons.2 ⟨ok155, (List.forall_mem_cons.2 ⟨ok158, (List.forall_mem_cons.2 ⟨ok160, (List.forall_mem_cons.2 ⟨ok165, (List.forall_mem_cons.2 ⟨ok168, (List.forall_mem_cons.2 ⟨ok170, (List.forall_mem_cons.2 ⟨ok171, (List.forall_mem_cons.2 ⟨ok173, (List.forall_mem_cons.2 ⟨ok177, (List.forall_mem_cons.2 ⟨ok180, (List.forall_mem_cons.2 ⟨ok189, (List.forall_mem_cons.2 ⟨ok191, (List.forall_mem_cons.2 ⟨ok194, (List.forall_mem_cons.2 ⟨ok196, (List.forall_mem_cons.2 ⟨ok198, (List.forall_mem_cons.2 ⟨ok200, (List.forall_mem_cons.2 ⟨ok203, (List.forall_mem_cons.2 ⟨ok211, (List.forall_mem_cons.2 ⟨ok212, (List.forall_mem_cons.2 ⟨ok216, (List.forall_mem_cons.2 ⟨ok219, (fun _ h => nomatch h)⟩)⟩)⟩)⟩)⟩)⟩)⟩)⟩)⟩)⟩)⟩)⟩)⟩)⟩)⟩)⟩)⟩)⟩)⟩)⟩)⟩)⟩)⟩)⟩)⟩)⟩)⟩)⟩)⟩)⟩)⟩)⟩)⟩)⟩)⟩)⟩)⟩)⟩)⟩)⟩)⟩)⟩)⟩)⟩)⟩)⟩)⟩)⟩)
theorem fok3 : FI.Ok Try.prog 3 (FI.of Try.f3 true) := FI.ok_of Try.func3 rfl (by kernel_rfl)
theorem fok4 : FI.Ok Try.prog 4 (FI.of Try.f4 true) := FI.ok_of Try.func4 rfl (by kernel_rfl)
theorem fok5 : FI.Ok Try.prog 5 (FI.of Try.f5 true) := FI.ok_of Try.func5 rfl (by kernel_rfl)
theorem fok6 : FI.Ok Try.prog 6 (FI.of Try.f6 true) := FI.ok_of Try.func6 rfl (by kernel_rfl)
theorem fok7 : FI.Ok Try.prog 7 (FI.of Try.f7 true) := FI.ok_of Try.func7 rfl (by kernel_rfl)
theorem fok8 : FI.Ok Try.prog 8 (FI.of Try.f8 true) := FI.ok_of Try.func8 rfl (by kernel_rfl)
theorem fok9 : FI.Ok Try.prog 9 (FI.of Try.f9 true) := FI.ok_of Try.func9 rfl (by kernel_rfl)
theorem fok10 : FI.Ok Try.prog 10 (FI.of Try.f10 true) := FI.ok_of Try.func10 rfl (by kernel_rfl)
theorem fok11 : FI.Ok Try.prog 11 (FI.of Try.f11 true) := FI.ok_of Try.func11 rfl (by kernel_rfl)
theorem fok12 : FI.Ok Try.prog 12 (FI.of Try.f12 true) := FI.ok_of Try.func12 rfl (by kernel_rfl)
theorem fok13 : FI.Ok Try.prog 13 (FI.of Try.f13 true) := FI.ok_of Try.func13 rfl (by kernel_rfl)
theorem fok14 : FI.Ok Try.prog 14 (FI.of Try.f14 true) := FI.ok_of Try.func14 rfl (by kernel_rfl)
theorem fok15 : FI.Ok Try.prog 15 (FI.of Try.f15 true) := FI.ok_of Try.func15 rfl (by kernel_rfl)
theorem fok16 : FI.Ok Try.prog 16 (FI.of Try.f16 true) := FI.ok_of Try.func16 rfl (by kernel_rfl)
theorem fok17 : FI.Ok Try.prog 17 (FI.of Try.f17 true) := FI.ok_of Try.func17 rfl (by kernel_rfl)
theorem fok18 : FI.Ok Try.prog 18 (FI.of Try.f18 true) := FI.ok_of Try.func18 rfl (by kernel_rfl)
theorem fok19 : FI.Ok Try.prog 19 (FI.of Try.f19 true) := FI.ok_of Try.func19 rfl (by kernel_rfl)
theorem fok20 : FI.Ok Try.prog 20 (FI.of Try.f20 false) := FI.ok_of Try.func20 rfl (by kernel_rfl)
theorem fok21 : FI.Ok Try.prog 21 (FI.of Try.f21 true) := FI.ok_of Try.func21 rfl (by kernel_rfl)
theorem fok22 : FI.Ok Try.prog 22 (FI.of Try.f22 true) := FI.ok_of Try.func22 rfl (by kernel_rfl)
theorem fok23 : FI.Ok Try.prog 23 (FI.of Try.f23 false) := FI.ok_of Try.func23 rfl (by kernel_rfl)
theorem fok24 : FI.Ok Try.prog 24 (FI.of Try.f24 false) := FI.ok_of Try.func24 rfl (by kernel_rfl)
theorem fok25 : FI.Ok Try.prog 25 (FI.of Try.f25 true) := FI.ok_of Try.func25 rfl (by kernel_rfl)
theorem fok26 : FI.Ok Try.prog 26 (FI.of Try.f26 true) := FI.ok_of Try.func26 rfl (by kernel_rfl)
theorem fok27 : FI.Ok Try.prog 27 (FI.of Try.f27 true) := FI.ok_of Try.func27 rfl (by kernel_rfl)
theorem fok28 : FI.Ok Try.prog 28 (FI.of Try.f28 true) := FI.ok_of Try.func28 rfl (by kernel_rfl)
theorem fok29 : FI.Ok Try.prog 29 (FI.of Try.f29 true) := FI.ok_of Try.func29 rfl (by kernel_rfl)
theorem fok30 : FI.Ok Try.prog 30 (FI.of Try.f30 true) := FI.ok_of Try.func30 rfl (by kernel_rfl)
theorem fok31 : FI.Ok Try.prog 31 (FI.of Try.f31 true) := FI.ok_of Try.func31 rfl (by kernel_rfl)
theorem fok32 : FI.Ok Try.prog 32 (FI.of Try.f32 false) := FI.ok_of Try.func32 rfl (by kernel_rfl)
theorem fok33 : FI.Ok Try.prog 33 (FI.of Try.f33 false) := FI.ok_of Try.func33 rfl (by kernel_rfl)
theorem fok34 : FI.Ok Try.prog 34 (FI.of Try.f34 true) := FI.ok_of Try.func34 rfl (by kernel_rfl)
theorem fok35 : FI.Ok Try.prog 35 (FI.of Try.f35 false) := FI.ok_of Try.func35 rfl (by kernel_rfl)
theorem fok36 : FI.Ok Try.prog 36 (FI.of Try.f36 false) := FI.ok_of Try.func36 rfl (by kernel_rfl)
theorem fok37 : FI.Ok Try.prog 37 (FI.of Try.f37 true) := FI.ok_of Try.func37 rfl (by kernel_rfl)
theorem fok38 : FI.Ok Try.prog 38 (FI.of Try.f38 true) := FI.ok_of Try.func38 rfl (by kernel_rfl)
theorem fok39 : FI.Ok Try.prog 39 (FI.of Try.f39 false) := FI.ok_of Try.func39 rfl (by kernel_rfl)
theorem fok40 : FI.Ok Try.prog 40 (FI.of Try.f40 true) := FI.ok_of Try.func40 rfl (by kernel_rfl)
theorem fok41 : FI.Ok Try.prog 41 (FI.of Try.f41 true) := FI.ok_of Try.func41 rfl (by kernel_rfl)
theorem fok42 : FI.Ok Try.prog 42 (FI.of Try.f42 true) := FI.ok_of Try.func42 rfl (by kernel_rfl)
theorem fok43 : FI.Ok Try.prog 43 (FI.of Try.f43 true) := FI.ok_of Try.func43 rfl (by kernel_rfl)
theorem fok44 : FI.Ok Try.prog 44 (FI.of Try.f44 true) := FI.ok_of Try.func44 rfl (by kernel_rfl)
theorem fok45 : FI.Ok Try.prog 45 (FI.of Try.f45 true) := FI.ok_of Try.func45 rfl (by kernel_rfl)
theorem fok46 : FI.Ok Try.prog 46 (FI.of Try.f46 true) := FI.ok_of Try.func46 rfl (by kernel_rfl)
theorem fok47 : FI.Ok Try.prog 47 (FI.of Try.f47 true) := FI.ok_of Try.func47 rfl (by kernel_rfl)
theorem fok48 : FI.Ok Try.prog 48 (FI.of Try.f48 true) := FI.ok_of Try.func48 rfl (by kernel_rfl)
theorem fok49 : FI.Ok Try.prog 49 (FI.of Try.f49 true) := FI.ok_of Try.func49 rfl (by kernel_rfl)
theorem fok50 : FI.Ok Try.prog 50 (FI.of Try.f50 true) := FI.ok_of Try.func50 rfl (by kernel_rfl)
theorem fok51 : FI.Ok Try.prog 51 (FI.of Try.f51 false) := FI.ok_of Try.func51 rfl (by kernel_rfl)
theorem fok52 : FI.Ok Try.prog 52 (FI.of Try.f52 false) := FI.ok_of Try.func52 rfl (by kernel_rfl)
theorem fok53 : FI.Ok Try.prog 53 (FI.of Try.f53 true) := FI.ok_of Try.func53 rfl (by kernel_rfl)
theorem fok54 : FI.Ok Try.prog 54 (FI.of Try.f54 true) := FI.ok_of Try.func54 rfl (by kernel_rfl)
theorem fok55 : FI.Ok Try.prog 55 (FI.of Try.f55 false) := FI.ok_of Try.func55 rfl (by kernel_rfl)
theorem fok56 : FI.Ok Try.prog 56 (FI.of Try.f56 true) := FI.ok_of Try.func56 rfl (by kernel_rfl)
theorem fok57 : FI.Ok Try.prog 57 (FI.of Try.f57 false) := FI.ok_of Try.func57 rfl (by kernel_rfl)
theorem fok58 : FI.Ok Try.prog 58 (FI.of Try.f58 true) := FI.ok_of Try.func58 rfl (by kernel_rfl)
theorem fok59 : FI.Ok Try.prog 59 (FI.of Try.f59 true) := FI.ok_of Try.func59 rfl (by kernel_rfl)
theorem fok60 : FI.Ok Try.prog 60 (FI.of Try.f60 true) := FI.ok_of Try.func60 rfl (by kernel_rfl)
theorem fok61 : FI.Ok Try.prog 61 (FI.of Try.f61 true) := FI.ok_of Try.func61 rfl (by kernel_rfl)
theorem fok62 : FI.Ok Try.prog 62 (FI.of Try.f62 false) := FI.ok_of Try.func62 rfl (by kernel_rfl)
theorem fok63 : FI.Ok Try.prog 63 (FI.of Try.f63 true) := FI.ok_of Try.func63 rfl (by kernel_rfl)
theorem fok64 : FI.Ok Try.prog 64 (FI.of Try.f64 true) := FI.ok_of Try.func64 rfl (by kernel_rfl)
theorem fok65 : FI.Ok Try.prog 65 (FI.of Try.f65 true) := FI.ok_of Try.func65 rfl (by kernel_rfl)
theorem fok66 : FI.Ok Try.prog 66 (FI.of Try.f66 false) := FI.ok_of Try.func66 rfl (by kernel_rfl)
theorem fok67 : FI.Ok Try.prog 67 (FI.of Try.f67 true) := FI.ok_of Try.func67 rfl (by kernel_rfl)
theorem fok68 : FI.Ok Try.prog 68 (FI.of Try.f68 true) := FI.ok_of Try.func68 rfl (by kernel_rfl)
theorem fok69 : FI.Ok Try.prog 69 (FI.of Try.f69 true) := FI.ok_of Try.func69 rfl (by kernel_rfl)
theorem fok70 : FI.Ok Try.prog 70 (FI.of Try.f70 true) := FI.ok_of Try.func70 rfl (by kernel_rfl)
theorem fok71 : FI.Ok Try.prog 71 (FI.of Try.f71 false) := FI.ok_of Try.func71 rfl (by kernel_rfl)
theorem fok72 : FI.Ok Try.prog 72 (FI.of Try.f72 true) := FI.ok_of Try.func72 rfl (by kernel_rfl)
theorem fok73 : FI.Ok Try.prog 73 (FI.of Try.f73 true) := FI.ok_of Try.func73 rfl (by kernel_rfl)
theorem fok74 : FI.Ok Try.prog 74 (FI.of Try.f74 true) := FI.ok_of Try.func74 rfl (by kernel_rfl)
theorem fok75 : FI.Ok Try.prog 75 (FI.of Try.f75 false) := FI.ok_of Try.func75 rfl (by kernel_rfl)
theorem fok76 : FI.Ok Try.prog 76 (FI.of Try.f76 false) := FI.ok_of Try.func76 rfl (by kernel_rfl)
theorem fok77 : FI.Ok Try.prog 77 (FI.of Try.f77 true) := FI.ok_of Try.func77 rfl (by kernel_rfl)
theorem fok78 : FI.Ok Try.prog 78 (FI.of Try.f78 true) := FI.ok_of Try.func78 rfl (by kernel_rfl)
theorem fok79 : FI.Ok Try.prog 79 (FI.of Try.f79 false) := FI.ok_of Try.func79 rfl (by kernel_rfl)
theorem fok80 : FI.Ok Try.prog 80 (FI.of Try.f80 false) := FI.ok_of Try.func80 rfl (by kernel_rfl)
theorem fok81 : FI.Ok Try.prog 81 (FI.of Try.f81 true) := FI.ok_of Try.func81 rfl (by kernel_rfl)
theorem fok82 : FI.Ok Try.prog 82 (FI.of Try.f82 true) := FI.ok_of Try.func82 rfl (by kernel_rfl)
theorem fok83 : FI.Ok Try.prog 83 (FI.of Try.f83 true) := FI.ok_of Try.func83 rfl (by kernel_rfl)
theorem fok84 : FI.Ok Try.prog 84 (FI.of Try.f84 true) := FI.ok_of Try.func84 rfl (by kernel_rfl)
theorem fok85 : FI.Ok Try.prog 85 (FI.of Try.f85 false) := FI.ok_of Try.func85 rfl (by kernel_rfl)
theorem fok86 : FI.Ok Try.prog 86 (FI.of Try.f86 true) := FI.ok_of Try.func86 rfl (by kernel_rfl)
theorem fok87 : FI.Ok Try.prog 87 (FI.of Try.f87 true) := FI.ok_of Try.func87 rfl (by kernel_rfl)
theorem fok88 : FI.Ok Try.prog 88 (FI.of Try.f88 true) := FI.ok_of Try.func88 rfl (by kernel_rfl)
theorem fok89 : FI.Ok Try.prog 89 (FI.of Try.f89 true) := FI.ok_of Try.func89 rfl (by kernel_rfl)
theorem fok90 : FI.Ok Try.prog 90 (FI.of Try.f90 true) := FI.ok_of Try.func90 rfl (by kernel_rfl)
theorem fok91 : FI.Ok Try.prog 91 (FI.of Try.f91 true) := FI.ok_of Try.func91 rfl (by kernel_rfl)
theorem fok92 : FI.Ok Try.prog 92 (FI.of Try.f92 true) := FI.ok_of Try.func92 rfl (by kernel_rfl)
theorem fok93 : FI.Ok Try.prog 93 (FI.of Try.f93 true) := FI.ok_of Try.func93 rfl (by kernel_rfl)
theorem fok94 : FI.Ok Try.prog 94 (FI.of Try.f94 false) := FI.ok_of Try.func94 rfl (by kernel_rfl)
theorem fok95 : FI.Ok Try.prog 95 (FI.of Try.f95 false) := FI.ok_of Try.func95 rfl (by kernel_rfl)
theorem fok96 : FI.Ok Try.prog 96 (FI.of Try.f96 true) := FI.ok_of Try.func96 rfl (by kernel_rfl)
theorem fok97 : FI.Ok Try.prog 97 (FI.of Try.f97 true) := FI.ok_of Try.func97 rfl (by kernel_rfl)
theorem fok98 : FI.Ok Try.prog 98 (FI.of Try.f98 true) := FI.ok_of Try.func98 rfl (by kernel_rfl)
theorem fok99 : FI.Ok Try.prog 99 (FI.of Try.f99 false) := FI.ok_of Try.func99 rfl (by kernel_rfl)
theorem fok100 : FI.Ok Try.prog 100 (FI.of Try.f100 true) := FI.ok_of Try.func100 rfl (by kernel_rfl)
theorem fok101 : FI.Ok Try.prog 101 (FI.of Try.f101 true) := FI.ok_of Try.func101 rfl (by kernel_rfl)
theorem fok102 : FI.Ok Try.prog 102 (FI.of Try.f102 false) := FI.ok_of Try.func102 rfl (by kernel_rfl)
theorem fok103 : FI.Ok Try.prog 103 (FI.of Try.f103 false) := FI.ok_of Try.func103 rfl (by kernel_rfl)
theorem fok104 : FI.Ok Try.prog 104 (FI.of Try.f104 false) := FI.ok_of Try.func104 rfl (by kernel_rfl)
theorem fok105 : FI.Ok Try.prog 105 (FI.of Try.f105 false) := FI.ok_of Try.func105 rfl (by kernel_rfl)
theorem fok106 : FI.Ok Try.prog 106 (FI.of Try.f106 true) := FI.ok_of Try.func106 rfl (by kernel_rfl)
theorem fok107 : FI.Ok Try.prog 107 (FI.of Try.f107 false) := FI.ok_of Try.func107 rfl (by kernel_rfl)
theorem fok108 : FI.Ok Try.prog 108 (FI.of Try.f108 true) := FI.ok_of Try.func108 rfl (by kernel_rfl)
theorem fok109 : FI.Ok Try.prog 109 (FI.of Try.f109 true) := FI.ok_of Try.func109 rfl (by kernel_rfl)
theorem fok110 : FI.Ok Try.prog 110 (FI.of Try.f110 true) := FI.ok_of Try.func110 rfl (by kernel_rfl)
theorem fok111 : FI.Ok Try.prog 111 (FI.of Try.f111 true) := FI.ok_of Try.func111 rfl (by kernel_rfl)
theorem fok112 : FI.Ok Try.prog 112 (FI.of Try.f112 true) := FI.ok_of Try.func112 rfl (by kernel_rfl)
theorem fok113 : FI.Ok Try.prog 113 (FI.of Try.f113 true) := FI.ok_of Try.func113 rfl (by kernel_rfl)
theorem fok114 : FI.Ok Try.prog 114 (FI.of Try.f114 true) := FI.ok_of Try.func114 rfl (by kernel_rfl)
theorem fok115 : FI.Ok Try.prog 115 (FI.of Try.f115 true) := FI.ok_of Try.func115 rfl (by kernel_rfl)
theorem fok116 : FI.Ok Try.prog 116 (FI.of Try.f116 true) := FI.ok_of Try.func116 rfl (by kernel_rfl)
theorem fok117 : FI.Ok Try.prog 117 (FI.of Try.f117 true) := FI.ok_of Try.func117 rfl (by kernel_rfl)
theorem fok118 : FI.Ok Try.prog 118 (FI.of Try.f118 true) := FI.ok_of Try.func118 rfl (by kernel_rfl)
theorem fok119 : FI.Ok Try.prog 119 (FI.of Try.f119 true) := FI.ok_of Try.func119 rfl (by kernel_rfl)
theorem fok120 : FI.Ok Try.prog 120 (FI.of Try.f120 true) := FI.ok_of Try.func120 rfl (by kernel_rfl)
theorem fok121 : FI.Ok Try.prog 121 (FI.of Try.f121 true) := FI.ok_of Try.func121 rfl (by kernel_rfl)
theorem fok122 : FI.Ok Try.prog 122 (FI.of Try.f122 false) := FI.ok_of Try.func122 rfl (by kernel_rfl)
theorem fok123 : FI.Ok Try.prog 123 (FI.of Try.f123 true) := FI.ok_of Try.func123 rfl (by kernel_rfl)
theorem fok124 : FI.Ok Try.prog 124 (FI.of Try.f124 true) := FI.ok_of Try.func124 rfl (by kernel_rfl)
theorem fok125 : FI.Ok Try.prog 125 (FI.of Try.f125 true) := FI.ok_of Try.func125 rfl (by kernel_rfl)
theorem fok126 : FI.Ok Try.prog 126 (FI.of Try.f126 true) := FI.ok_of Try.func126 rfl (by kernel_rfl)
theorem fok127 : FI.Ok Try.prog 127 (FI.of Try.f127 true) := FI.ok_of Try.func127 rfl (by kernel_rfl)
theorem fok128 : FI.Ok Try.prog 128 (FI.of Try.f128 true) := FI.ok_of Try.func128 rfl (by kernel_rfl)
theorem fok129 : FI.Ok Try.prog 129 (FI.of Try.f129 true) := FI.ok_of Try.func129 rfl (by kernel_rfl)
theorem fok130 : FI.Ok Try.prog 130 (FI.of Try.f130 true) := FI.ok_of Try.func130 rfl (by kernel_rfl)
theorem fok131 : FI.Ok Try.prog 131 (FI.of Try.f131 true) := FI.ok_of Try.func131 rfl (by kernel_rfl)
theorem fok132 : FI.Ok Try.prog 132 (FI.of Try.f132 false) := FI.ok_of Try.func132 rfl (by kernel_rfl)
theorem fok133 : FI.Ok Try.prog 133 (FI.of Try.f133 true) := FI.ok_of Try.func133 rfl (by kernel_rfl)
theorem fok134 : FI.Ok Try.prog 134 (FI.of Try.f134 true) := FI.ok_of Try.func134 rfl (by kernel_rfl)
theorem fok135 : FI.Ok Try.prog 135 (FI.of Try.f135 true) := FI.ok_of Try.func135 rfl (by kernel_rfl)
theorem fok136 : FI.Ok Try.prog 136 (FI.of Try.f136 true) := FI.ok_of Try.func136 rfl (by kernel_rfl)
theorem fok137 : FI.Ok Try.prog 137 (FI.of Try.f137 true) := FI.ok_of Try.func137 rfl (by kernel_rfl)
theorem fok138 : FI.Ok Try.prog 138 (FI.of Try.f138 true) := FI.ok_of Try.func138 rfl (by kernel_rfl)
theorem fok139 : FI.Ok Try.prog 139 (FI.of Try.f139 true) := FI.ok_of Try.func139 rfl (by kernel_rfl)
theorem fok140 : FI.Ok Try.prog 140 (FI.of Try.f140 true) := FI.ok_of Try.func140 rfl (by kernel_rfl)
theorem fok141 : FI.Ok Try.prog 141 (FI.of Try.f141 true) := FI.ok_of Try.func141 rfl (by kernel_rfl)
theorem fok142 : FI.Ok Try.prog 142 (FI.of Try.f142 true) := FI.ok_of Try.func142 rfl (by kernel_rfl)
theorem fok143 : FI.Ok Try.prog 143 (FI.of Try.f143 false) := FI.ok_of Try.func143 rfl (by kernel_rfl)
theorem fok144 : FI.Ok Try.prog 144 (FI.of Try.f144 false) := FI.ok_of Try.func144 rfl (by kernel_rfl)
theorem fok145 : FI.Ok Try.prog 145 (FI.of Try.f145 true) := FI.ok_of Try.func145 rfl (by kernel_rfl)
theorem fok146 : FI.Ok Try.prog 146 (FI.of Try.f146 true) := FI.ok_of Try.func146 rfl (by kernel_rfl)
theorem fok147 : FI.Ok Try.prog 147 (FI.of Try.f147 true) := FI.ok_of Try.func147 rfl (by kernel_rfl)
theorem fok148 : FI.Ok Try.prog 148 (FI.of Try.f148 true) := FI.ok_of Try.func148 rfl (by kernel_rfl)
theorem fok149 : FI.Ok Try.prog 149 (FI.of Try.f149 true) := FI.ok_of Try.func149 rfl (by kernel_rfl)
theorem fok150 : FI.Ok Try.prog 150 (FI.of Try.f150 false) := FI.ok_of Try.func150 rfl (by kernel_rfl)
theorem fok151 : FI.Ok Try.prog 151 (FI.of Try.f151 false) := FI.ok_of Try.func151 rfl (by kernel_rfl)
theorem fok152 : FI.Ok Try.prog 152 (FI.of Try.f152 true) := FI.ok_of Try.func152 rfl (by kernel_rfl)
theorem fok153 : FI.Ok Try.prog 153 (FI.of Try.f153 true) := FI.ok_of Try.func153 rfl (by kernel_rfl)
theorem fok154 : FI.Ok Try.prog 154 (FI.of Try.f154 true) := FI.ok_of Try.func154 rfl (by kernel_rfl)
theorem fok155 : FI.Ok Try.prog 155 (FI.of Try.f155 true) := FI.ok_of Try.func155 rfl (by kernel_rfl)
theorem fok156 : FI.Ok Try.prog 156 (FI.of Try.f156 false) := FI.ok_of Try.func156 rfl (by kernel_rfl)
theorem fok157 : FI.Ok Try.prog 157 (FI.of Try.f157 true) := FI.ok_of Try.func157 rfl (by kernel_rfl)
theorem fok158 : FI.Ok Try.prog 158 (FI.of Try.f158 false) := FI.ok_of Try.func158 rfl (by kernel_rfl)
theorem fok159 : FI.Ok Try.prog 159 (FI.of Try.f159 true) := FI.ok_of Try.func159 rfl (by kernel_rfl)
theorem fok160 : FI.Ok Try.prog 160 (FI.of Try.f160 false) := FI.ok_of Try.func160 rfl (by kernel_rfl)
theorem fok161 : FI.Ok Try.prog 161 (FI.of Try.f161 true) := FI.ok_of Try.func161 rfl (by kernel_rfl)
set_option maxRecDepth 100000 in
theorem ft_ok : ∀ f x, ft.get f = some x → FI.Ok Try.prog f x := table_ok (Q := fun f x => FI.Ok Try.prog f x) (l := fl) (by kernel_rfl) (by kernel_rfl) (List.forall_mem_cons.2 ⟨fok3, (List.forall_mem_cons.2 ⟨fok4, (List.forall_mem_cons.2 ⟨fok5, (List.forall_mem_cons.2 ⟨fok6, (List.forall_mem_cons.2 ⟨fok7, (List.forall_mem_cons.2 ⟨fok8, (List.forall_mem_cons.2 ⟨fok9, (List.forall_mem_cons.2 ⟨fok10, (List.forall_mem_cons.2 ⟨fok11, (List.forall_mem_cons.2 ⟨fok12, (List.forall_mem_cons.2 ⟨fok13, (List.forall_mem_cons.2 ⟨fok14, (List.forall_mem_cons.2 ⟨fok15, (List.forall_mem_cons.2 ⟨fok16, (List.forall_mem_cons.2 ⟨fok17, (List.forall_mem_cons.2 ⟨fok18, (List.forall_mem_cons.2 ⟨fok19, (List.forall_mem_cons.2 ⟨fok20, (List.forall_mem_cons.2 ⟨fok21, (List.forall_mem_cons.2 ⟨fok22, (List.forall_mem_cons.2 ⟨fok23, (List.forall_mem_cons.2 ⟨fok24, (List.forall_mem_cons.2 ⟨fok25, (List.forall_mem_cons.2 ⟨fok26, (List.forall_mem_cons.2 ⟨fok27, (List.forall_mem_cons.2 ⟨fok28, (List.forall_mem_cons.2 ⟨fok29, (List.forall_mem_cons.2 ⟨fok30, (List.forall_mem_cons.2 ⟨fok31, (List.forall_mem_cons.2 ⟨fok32, (List.forall_mem_cons.2 ⟨fok33, (List.forall_mem_cons.2 ⟨fok34, (List.forall_mem_cons.2 ⟨fok35, (List.forall_mem_cons.2 ⟨fok36, (List.forall_mem_cons.2 ⟨fok37, (List.forall_mem_cons.2 ⟨fok38, (List.forall_mem_cons.2 ⟨fok39, (List.forall_mem_cons.2 ⟨fok40, (List.forall_mem_cons.2 ⟨fok41, (List.forall_mem_cons.2 ⟨fok42, (List.forall_mem_cons.2 ⟨fok43, (List.forall_mem_cons.2 ⟨fok44, (List.forall_mem_cons.2 ⟨fok45, (List.forall_mem_cons.2 ⟨fok46, (List.forall_mem_cons.2 ⟨fok47, (List.forall_mem_cons.2 ⟨fok48, (List.forall_mem_cons.2 ⟨fok49, (List.forall_mem_cons.2 ⟨fok50, (List.forall_mem_cons.2 ⟨fok51, (List.forall_mem_cons.2 ⟨fok52, (List.forall_mem_cons.2 ⟨fok53, (List.forall_mem_cons.2 ⟨fok54, (List.forall_mem_cons.2 ⟨fok55, (List.forall_mem_cons.2 ⟨fok56, (List.forall_mem_cons.2 ⟨fok57, (List.forall_mem_cons.2 ⟨fok58, (List.forall_mem_cons.2 ⟨fok59, (List.forall_mem_cons.2 ⟨fok60, (List.forall_mem_cons.2 ⟨fok61, (List.forall_mem_cons.2 ⟨fok62, (List.forall_mem_cons.2 ⟨fok63, (List.forall_mem_cons.2 ⟨fok64, (List.forall_mem_cons.2 ⟨fok65, (List.forall_mem_cons.2 ⟨fok66, (List.forall_mem_cons.2 ⟨fok67, (List.forall_mem_cons.2 ⟨fok68, (List.forall_mem_cons.2 ⟨fok69, (List.forall_mem_cons.2 ⟨fok70, (List.forall_mem_cons.2 ⟨fok71, (List.forall_mem_cons.2 ⟨fok72, (List.forall_mem_cons.2 ⟨fok73, (List.forall_mem_cons.2 ⟨fok74, (List.forall_mem_cons.2 ⟨fok75, (List.forall_mem_cons.2 ⟨fok76, (List.forall_mem_cons.2 ⟨fok77, (List.forall_mem_cons.2 ⟨fok78, (List.forall_mem_cons.2 ⟨fok79, (List.forall_mem_cons.2 ⟨fok80, (List.forall_mem_cons.2 ⟨fok81, (List.forall_mem_cons.2 ⟨fok82, (List.forall_mem_cons.2 ⟨fok83, (List.forall_mem_cons.2 ⟨fok84, (List.forall_mem_cons.2 ⟨fok85, (List.forall_mem_cons.2 ⟨fok86, (List.forall_mem_cons.2 ⟨fok87, (List.forall_mem_cons.2 ⟨fok88, (List.forall_mem_cons.2 ⟨fok89, (List.forall_mem_cons.2 ⟨fok90, (List.forall_mem_cons.2 ⟨fok91, (List.forall_mem_cons.2 ⟨fok92, (List.forall_mem_cons.2 ⟨fok93, (List.forall_mem_cons.2 ⟨fok94, (List.forall_mem_cons.2 ⟨fok95, (List.forall_mem_cons.2 ⟨fok96, (List.forall_mem_cons.2 ⟨fok97, (List.forall_mem_cons.2 ⟨fok98, (List.forall_mem_cons.2 ⟨fok99, (List.forall_mem_cons.2 ⟨fok100, (List.forall_mem_cons.2 ⟨fok101, (List.forall_mem_cons.2 ⟨fok102, (List.forall_mem_cons.2 ⟨fok103, (List.forall_mem_cons.2 ⟨fok104, (List.forall_mem_cons.2 ⟨fok105, (List.forall_mem_cons.2 ⟨fok106, (List.forall_mem_cons.2 ⟨fok107, (List.forall_mem_cons.2 ⟨fok108, (List.forall_mem_cons.2 ⟨fok109, (List.forall_mem_cons.2 ⟨fok110, (List.forall_mem_cons.2 ⟨fok111, (List.forall_mem_cons.2 ⟨fok112, (List.forall_mem_cons.2 ⟨fok113, (List.forall_mem_cons.2 ⟨fok114, (List.forall_mem_cons.2 ⟨fok115, (List.forall_mem_cons.2 ⟨fok116, (List.forall_mem_cons.2 ⟨fok117, (List.forall_mem_cons.2 ⟨fok118, (List.forall_mem_cons.2 ⟨fok119, (List.forall_mem_cons.2 ⟨fok120, (List.forall_mem_cons.2 ⟨fok121, (List.forall_mem_cons.2 ⟨fok122, (List.forall_mem_cons.2 ⟨fok123, (List.forall_mem_cons.2 ⟨fok124, (List.forall_mem_cons.2 ⟨fok125, (List.forall_mem_cons.2 ⟨fok126, (List.forall_mem_cons.2 ⟨fok127, (List.forall_mem_cons.2 ⟨fok128, (List.forall_mem_cons.2 ⟨fok129, (List.forall_mem_cons.2 ⟨fok130, (List.forall_mem_cons.2 ⟨fok131, (List.forall_mem_cons.2 ⟨fok132, (List.forall_mem_cons.2 ⟨fok133, (List.forall_mem_cons.2 ⟨fok134, (List.forall_mem_cons.2 ⟨fok135, (List.forall_mem_cons.2 ⟨fok136, (List.forall_mem_cons.2 ⟨fok137, (List.forall_mem_cons.2 ⟨fok138, (List.forall_mem_cons.2 ⟨fok139, (List.forall_mem_cons.2 ⟨fok140, (List.forall_mem_cons.2 ⟨fok141, (List.forall_mem_cons.2 ⟨fok142, (List.forall_mem_cons.2 ⟨fok143, (List.forall_mem_cons.2 ⟨fok144, (List.forall_mem_cons.2 ⟨fok145, (List.forall_mem_cons.2 ⟨fok146, (List.forall_mem_cons.2 ⟨fok147, (List.forall_mem_cons.2 ⟨fok148, (List.forall_mem_cons.2 ⟨fok149, (List.forall_mem_cons.2 ⟨fok150, (List.forall_mem_cons.2 ⟨fok151, (List.forall_mem_cons.2 ⟨fok152, (List.forall_mem_cons.2 ⟨fok153, (List.forall_mem_cons.2 ⟨fok154, (List.forall_mem_cons.2 ⟨fok155, (List.forall_mem_cons.2 ⟨fok156, (List.forall_mem_cons.2 ⟨fok157, (List.forall_mem_cons.2 ⟨fok158, (List.forall_mem_cons.2 ⟨fok159, (List.forall_mem_cons.2 ⟨fok160, (List.forall_mem_cons.2 ⟨fok161, (fun _ h => nomatch h)⟩)⟩)⟩)⟩)⟩)⟩)⟩)⟩)⟩)⟩)⟩)⟩)⟩)⟩)⟩)⟩)⟩)⟩)⟩)⟩)⟩)⟩)⟩)⟩)⟩)⟩)⟩)⟩)⟩)⟩)⟩)⟩)⟩)⟩)⟩)⟩)⟩)⟩)⟩)⟩)⟩)⟩)⟩)⟩)⟩)⟩)⟩)⟩)⟩)⟩)⟩)⟩)⟩)⟩)⟩)⟩)⟩)⟩)⟩)⟩)⟩)⟩)⟩)⟩)⟩)⟩)⟩)⟩)⟩)⟩)⟩)⟩)⟩)⟩)⟩)⟩)⟩)⟩)⟩)⟩)⟩)⟩)⟩)⟩)⟩)⟩)⟩)⟩)⟩)⟩)⟩)⟩)⟩)⟩)⟩)⟩)⟩)⟩)⟩)⟩)⟩)⟩)⟩)⟩)⟩)⟩)⟩)⟩)⟩)⟩)⟩)⟩)⟩)⟩)⟩)⟩)⟩)⟩)⟩)⟩)⟩)⟩)⟩)⟩)⟩)⟩)⟩)⟩)⟩)⟩)⟩)⟩)⟩)⟩)⟩)⟩)⟩)⟩)⟩)⟩)⟩)⟩)⟩)⟩)⟩)⟩)⟩)⟩)⟩)⟩)⟩)⟩)⟩)⟩)⟩)⟩)⟩)⟩)⟩)
theorem mixed : Try.prog.follows .mixedOrders = true := by kernel_rfl
end Try
end Go.Ex

