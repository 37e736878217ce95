/-
 The executor: states, one operation, the results of a call.
-/
import Derived.Test.YtdpabnfcfakjeaaEx12

namespace Go.Ex
open Go Go.RowKit
noncomputable section

structure St where
 tm : T Sv
 hp : T Blk
 nx : Nat
 lo : Nat
 pc : PC

structure cR (η : Env) (E : Emb) (nt base : Nat) (w0 : World) (st : St) (a : Act) (w : World) : Prop where
 fr : gO η E st.tm a
 sz : a.tmps.size = nt
 nt : nt ≤ 60000
 df : a.defers = E.dl.l
 hr : aD η E st.hp st.nx st.lo base w
 bl : Below base w0 w
 lo : st.lo ≤ st.nx
 pc : st.pc.holds η

def f0 (n : Nat) : Sc → Bool
 | .ptr (some (b, _)) => Nat.blt b n
 | .slice (some (b, _)) _ _ => Nat.blt b n
 | .map (some b) => Nat.blt b n
 | .asl b _ _ => Nat.blt b n
 | .aptr b _ => Nat.blt b n
 | .fn _ cs => cs.all fun p => Nat.blt p.1 n
 | .fz _ _ => false
 | .fptr _ _ _ _ _ _ => false
 | .own b _ => Nat.blt b n
 | .rptr b _ _ _ => Nat.blt b n
 | .mown _ q _ _ => Nat.blt q n
 | .mptr _ q _ _ => Nat.blt q n
 | _ => true
def below (n : Nat) : Sv → Bool
 | .one c => f0 n c
 | .agg l => l.all (f0 n)
 | .tup l => l.all fun p => p.2.all (f0 n)
 | .undef => true

theorem Sc.den_agree {η : Env} {E E' : Emb} {n : Nat} (h : aH E E' n) {c : Sc} (hc : f0 n c = true) : c.den η E' = c.den η E := by
 cases c with
 | ptr a => cases a with
  | none => rfl
  | some a =>
   obtain ⟨b, o⟩ := a
   simp only [f0] at hc
   simp only [Sc.den, bN, h.b b (Nat.le_of_ble_eq_true hc)]
 | slice a m c => cases a with
  | none => cases c <;> rfl
  | some a =>
   obtain ⟨b, o⟩ := a
   simp only [f0] at hc
   cases c <;> simp only [Sc.den, bN, h.b b (Nat.le_of_ble_eq_true hc)]
 | map r => cases r with
  | none => rfl
  | some b =>
   simp only [f0] at hc
   simp only [Sc.den, h.b b (Nat.le_of_ble_eq_true hc)]
 | asl b k c =>
  simp only [f0] at hc
  simp only [Sc.den, h.b b (Nat.le_of_ble_eq_true hc)]
 | aptr b o =>
  simp only [f0] at hc
  simp only [Sc.den, h.b b (Nat.le_of_ble_eq_true hc)]
 | fn f cs =>
  simp only [f0] at hc
  have : bO E' cs = bO E cs := by
   induction cs with
   | nil => rfl
   | cons p cs ih =>
    simp only [List.all_cons, Bool.and_eq_true] at hc
    simp only [bO, bN, h.b p.1 (Nat.le_of_ble_eq_true hc.1), ih hc.2]
  simp only [Sc.den, this]
 | fz r d => cases hc
 | fptr r cs n f i j => cases hc
 | own b k =>
  simp only [f0] at hc
  simp only [Sc.den, h.b b (Nat.le_of_ble_eq_true hc)]
 | rptr b sz i j =>
  simp only [f0] at hc
  simp only [Sc.den, h.b b (Nat.le_of_ble_eq_true hc)]
 | mown b q i k =>
  simp only [f0] at hc
  simp only [Sc.den, h.m q (Nat.le_of_ble_eq_true hc)]
 | mptr b q i j =>
  simp only [f0] at hc
  simp only [Sc.den, h.m q (Nat.le_of_ble_eq_true hc)]
 | _ => rfl
theorem pU {η : Env} {E E' : Emb} {n : Nat} (h : aH E E' n) : ∀ {l : List Sc}, l.all (f0 n) = true → aL η E' l = aL η E l
 | [], _ => rfl
 | c :: l, hl => by
  simp only [List.all_cons, Bool.and_eq_true] at hl
  simp only [aL, Sc.den_agree h hl.1, pU h hl.2]
theorem BP {η : Env} {E E' : Emb} {n : Nat} (h : aH E E' n) {p : Bool × List Sc} (hp : p.2.all (f0 n) = true) : bP η E' p = bP η E p := by
 obtain ⟨b, l⟩ := p
 cases b with
 | true => simp only [bP, pU h hp]
 | false =>
  cases l with
  | nil => rfl
  | cons c l =>
   cases l with
   | nil =>
    simp only [List.all_cons, Bool.and_eq_true] at hp
    simp only [bP, Sc.den_agree h hp.1]
   | cons d l => rfl
theorem nI {η : Env} {E E' : Emb} {n : Nat} (h : aH E E' n) : ∀ {l : List (Bool × List Sc)}, (l.all fun p => p.2.all (f0 n)) = true → aN η E' l = aN η E l
 | [], _ => rfl
 | p :: l, hl => by
  simp only [List.all_cons, Bool.and_eq_true] at hl
  simp only [aN, BP h hl.1, nI h hl.2]
theorem Sv.den_agree {η : Env} {E E' : Emb} {n : Nat} (h : aH E E' n) {s : Sv} (hs : below n s = true) : s.den η E' = s.den η E := by
 cases s with
 | one c => exact Sc.den_agree h hs
 | agg l => simp only [Sv.den, pU h hs]
 | tup l => simp only [Sv.den, nI h hs]
 | undef => rfl

/-! ## Results -/
def SE (C : Cx) (hp : T Blk) (tm : T Sv) : ResultVar → Option Sv
 | .tmp t => tm.get t
 | .cell a t => match tm.get a with
  | some s => G5 C hp t s
  | none => none
def PI : Sv → Option (Bool × List Sc)
 | .one c => some (false, [c])
 | .agg l => some (true, l)
 | _ => none
def SF (C : Cx) (hp : T Blk) (tm : T Sv) : List ResultVar → Option (List (Bool × List Sc))
 | [] => some []
 | r :: l => match SE C hp tm r, SF C hp tm l with
  | some s, some m => match PI s with
   | some p => some (p :: m)
   | none => none
  | _, _ => none
def rT (C : Cx) (hp : T Blk) (tm : T Sv) (l : List ResultVar) : Option Sv :=
 match l with
 | [r] => SE C hp tm r
 | l => match SF C hp tm l with
  | some m => some (.tup m)
  | none => none

def nJ (tmps : Array Value) : ResultVar → Sem Value
 | .tmp t => pure (tmps.getD t undef)
 | .cell a t => do loadVar t (← asAddr (tmps.getD a undef))

theorem GJ {C : Cx} {P : Program} {η : Env} {E : Emb} (hC : C.Ok P η) {hp : T Blk} {nx lo base : Nat} {w : World} (hH : aD η E hp nx lo base w) {tm : T Sv} {a : Act} (hf : gO η E tm a) {r : ResultVar} {s : Sv} (h : SE C hp tm r = some s) :
  ∃ v, s.den η E = some v ∧ (nJ a.tmps r).run P w = .ok v w := by
 cases r with
 | tmp t =>
  obtain ⟨v, h1, h2⟩ := hf t s h
  exact ⟨v, h2, by simp [nJ, Array.getD_eq_getD_getElem?, h1]⟩
 | cell ad t =>
  simp only [SE] at h
  split at h
  ·rename_i s' hs
   obtain ⟨va, h1, h2⟩ := hf ad s' hs
   obtain ⟨v, h3, h4⟩ := CH hC hH h h2
   refine ⟨v, h3, ?_⟩
   unfold G5 at h
   split at h
   ·rename_i b o
    obtain ⟨B, K, _, rfl⟩ := jG h2
    have e : a.tmps.getD ad undef = .pointer (some ⟨B, o, none⟩) := by simp [Array.getD_eq_getD_getElem?, h1]
    simp only [nJ, e, asAddr, Sem.run_bind, Sem.run_pure, Result.andThen_ok]
    simpa [Instr.loadAt, Instr.sureAddr] using h4
   ·rename_i b o
    obtain ⟨B, K, _, rfl⟩ := yJ h2
    have e : a.tmps.getD ad undef = .pointer (some ⟨B, K + o, none⟩) := by simp [Array.getD_eq_getD_getElem?, h1]
    simp only [nJ, e, asAddr, Sem.run_bind, Sem.run_pure, Result.andThen_ok]
    simpa [Instr.loadAt, Instr.sureAddr] using h4
   ·cases h
  ·cases h

theorem JZ {η : Env} {E : Emb} {s : Sv} {p : Bool × List Sc} {v : Value} (h : PI s = some p) (hs : s.den η E = some v) : bP η E p = some v := by
 cases s with
 | one c => cases h; exact hs
 | agg l => cases h; exact hs
 | tup l => cases h
 | undef => cases h

theorem GK {C : Cx} {P : Program} {η : Env} {E : Emb} (hC : C.Ok P η) {hp : T Blk} {nx lo base : Nat} {w : World} (hH : aD η E hp nx lo base w) {tm : T Sv} {a : Act} (hf : gO η E tm a) : ∀ {l : List ResultVar} {m}, SF C hp tm l = some m →
  ∃ vs, aN η E m = some vs ∧ vs.length = l.length ∧ (l.mapM (nJ a.tmps)).run P w = .ok vs w
 | [], m, h => by cases h; exact ⟨[], rfl, rfl, by simp⟩
 | r :: l, m, h => by
  simp only [SF] at h
  split at h
  ·rename_i s m' hs hm
   split at h
   ·rename_i p hp'
    cases h
    obtain ⟨v, h1, h2⟩ := GJ hC hH hf hs
    obtain ⟨vs, h3, h4, h5⟩ := GK hC hH hf hm
    exact ⟨v :: vs, by simp [aN, JZ hp' h1, h3], by simp [h4], by simp [List.mapM_cons, h2, h5]⟩
   ·cases h
  ·cases h

theorem J0 (fn : Func) (tmps : Array Value) (P : Program) (w : World) : (results fn tmps).run P w = ((fn.results.toList.mapM (nJ tmps)).run P w).andThen fun vs w' => .ok (if h : vs.length = 1 then vs[0] else .tuple vs.toArray) w' := by
 have e : ∀ f g : ResultVar → Sem Value, (∀ r, f r = g r) → (do let vs ← fn.results.mapM f; pure (if h : vs.size = 1 then vs[0] else .tuple vs) : Sem Value) = (do let vs ← fn.results.mapM g; pure (if h : vs.size = 1 then vs[0] else .tuple vs) : Sem Value) := by
  intro f g h
  rw [funext h]
 refine (congrArg (fun s => Sem.run P s w) (e _ (nJ tmps) (fun r => by cases r <;> rfl))).trans ?_
 rw [Array.mapM_eq_mapM_toList]
 simp only [Sem.run_bind, Sem.run_map]
 cases (fn.results.toList.mapM (nJ tmps)).run P w with
 | ok vs w' => simp
 | halt h w' => rfl

theorem xJ {C : Cx} {P : Program} {η : Env} {E : Emb} (hC : C.Ok P η) {hp : T Blk} {nx lo base : Nat} {w : World} (hH : aD η E hp nx lo base w) {tm : T Sv} {a : Act} (hf : gO η E tm a) {fn : Func} {s : Sv} (h : rT C hp tm fn.results.toList = some s) :
  ∃ v, s.den η E = some v ∧ (results fn a.tmps).run P w = .ok v w := by
 rw [J0]
 unfold rT at h
 split at h
 ·rename_i r hr
  obtain ⟨v, h1, h2⟩ := GJ hC hH hf h
  exact ⟨v, h1, by rw [hr]; simp [h2]⟩
 ·rename_i hl
  split at h
  ·rename_i m hm
   cases h
   obtain ⟨vs, h1, h2, h3⟩ := GK hC hH hf hm
   refine ⟨.tuple vs.toArray, by simp [Sv.den, h1], ?_⟩
   rw [h3]
   have : ¬ vs.length = 1 := by
    intro e
    rw [h2] at e
    match hfr : fn.results.toList, e with
    | [r], _ => exact hl r hfr
   simp [this]
  ·cases h

/-! ## One operation -/
def f6 (nt : Nat) (dst : Option Tmp) (sv : Sv) (st : St) : aA St :=
 match dst with
 | none => .leaf st
 | some d => bif Nat.blt d nt then .leaf { st with tm := st.tm.set d (some sv) } else .fail

theorem cT {η : Env} {E : Emb} {nt base : Nat} {w0 : World} {st st' : St} {a : Act} {w : World} {dst : Option Tmp} {sv : Sv} {v : Value} (h : (f6 nt dst sv st).at_ η = some st') (hr : cR η E nt base w0 st a w) (hv : sv.den η E = some v) :
  cR η E nt base w0 st' (a.put dst v) w ∧ st'.nx = st.nx ∧ st'.lo = st.lo ∧ st'.pc = st.pc ∧ st'.hp = st.hp := by
 unfold f6 at h
 split at h
 ·cases h; exact ⟨⟨hr.fr, hr.sz, hr.nt, hr.df, hr.hr, hr.bl, hr.lo, hr.pc⟩, rfl, rfl, rfl, rfl⟩
 ·rename_i d
  cases hd : Nat.blt d nt with
  | false => rw [hd] at h; cases h
  | true =>
   rw [hd] at h; cases h
   have hd := Nat.le_of_ble_eq_true hd
   exact ⟨⟨hr.fr.put (by have := hr.nt; omega) (by rw [hr.sz]; exact hd) hv, by simp [Act.put, hr.sz], hr.nt, hr.df, hr.hr, hr.bl, hr.lo, hr.pc⟩, rfl, rfl, rfl, rfl⟩

/-- What an executor of calls hands back is what the call hands back. -/
def eR (P : Program) (η : Env) (ih : FI → List Sv → St → aA (Sv × St)) : Prop :=
 ∀ fi args st r, (ih fi args st).at_ η = some r → ∀ f, FI.Ok P f fi → st.pc.holds η → st.lo ≤ st.nx →
  ∀ E base w0 w vs, aD η E st.hp st.nx st.lo base w → Below base w0 w → aB η E args = some vs →
   Calls P f vs.toArray w fun e w' => ∃ v E', e = .returned v ∧ r.1.den η E' = some v ∧ aH E E' st.nx ∧ aD η E' r.2.hp r.2.nx st.lo base w' ∧ Below base w0 w' ∧ r.2.pc.holds η ∧ st.nx ≤ r.2.nx

/-! ## Other deferred calls -/
def Emb.dl0 (E : Emb) (l : List Deferred) : Emb := { E with dl := ⟨l, E.dl.z0⟩ }
theorem Emb.le_dl0 (E : Emb) (l : List Deferred) : E.le (E.dl0 l) := ⟨fun _ _ h => h, fun _ _ _ h => h, fun _ _ _ h => h, fun _ _ _ h => h⟩
theorem aD.dl0 {η : Env} {E : Emb} {hp : T Blk} {nx lo base : Nat} {w : World} (h : aD η E hp nx lo base w) (l : List Deferred) : aD η (E.dl0 l) hp nx lo base w :=
 ⟨h.dom, fun i b hi => by obtain ⟨B, K, h1, h2⟩ := h.cell i b hi; exact ⟨B, K, h1, h2.mono (E.le_dl0 l)⟩, h.inj, h.hi, h.top, h.bot, h.free, h.lim, h.zw, h.zd, h.rfree, h.dk, h.rn, h.mt.keep (fun _ _ => rfl) (Nat.le_refl _) h.mt.hi (Nat.le_refl _) (fun _ _ _ _ _ _ _ _ hg => ⟨hg, rfl⟩) (fun _ _ _ h => h) (fun _ _ => rfl) (fun _ _ => rfl) h.mt.z h.mt.own⟩

theorem dN {η : Env} {E E' : Emb} (h : E.le E') : ∀ {l : List Sv} {vs}, aB η E l = some vs → aB η E' l = some vs
 | [], vs, hv => hv
 | s :: l, vs, hv => by
  obtain ⟨v, us, h1, h2, rfl⟩ := aG hv
  simp [aB, Sv.den_mono h h1, dN h h2]
/-- As a run within sees it. -/
def Emb.z00 (E : Emb) : Emb := { E with d := fun _ => none, dl := ⟨E.dl.l, E.z⟩ }
theorem Emb.le_z00 (E : Emb) : E.le E.z00 := ⟨fun _ _ h => h, fun _ _ _ h => h, fun _ _ _ h => h, fun _ _ _ h => h⟩
theorem Emb.z00_le (E : Emb) : E.z00.le E := ⟨fun _ _ h => h, fun _ _ _ h => h, fun _ _ _ h => h, fun _ _ _ h => h⟩
theorem aD.z00 {η : Env} {E : Emb} {hp : T Blk} {nx lo base : Nat} {w : World} (hH : aD η E hp nx lo base w) : aD η E.z00 hp nx nx w.heap.size w :=
 ⟨hH.dom, (fun i b hi => by obtain ⟨B, K, h1, h2⟩ := hH.cell i b hi; exact ⟨B, K, h1, h2.mono E.le_z00⟩), hH.inj, (fun i B K hi hE => by have hE : E i = some (B, K) := hE; rw [hH.free i hi] at hE; cases hE), hH.top, Nat.le_refl _, hH.free, hH.lim, hH.zw, hH.zd, hH.rfree, (fun D o hD => by cases hD), ⟨(fun k j v hk hv => by have hv : E.r k j = some v := hv; rw [hH.rfree k hk] at hv; cases hv), fun _ _ _ _ h => h⟩, hH.mt.keep (fun _ _ => rfl) (Nat.le_refl _) (fun q i B L hq hE => by have := hH.mt.dom q i _ hE; omega) (Nat.le_refl _) (fun _ _ _ _ _ _ _ _ hg => ⟨hg, rfl⟩) (fun _ _ _ h => h) (fun _ _ => rfl) (fun _ _ => rfl) hH.mt.z hH.mt.own⟩

/-! ## Rows of the executor's own, as a call sees them -/
def xK (hp : T Blk) (nx k : Nat) (c : Sc) : Sc × Bool :=
 match c with
 | .own b n => match hp.get b with
  | some (.row _ cs n' f) => (.fz (.root nx k) (.list cs n f), Nat.ble n n')
  | _ => (c, true)
 | _ => (c, true)
def pV (hp : T Blk) (nx : Nat) : Nat → List Sc → List Sc × Bool
 | _, [] => ([], true)
 | k, c :: l => ((xK hp nx k c).1 :: (pV hp nx (k + 1) l).1, (xK hp nx k c).2 && (pV hp nx (k + 1) l).2)
def tE : Sv → Nat
 | .one _ => 1
 | .agg l => l.length
 | _ => 0
def MJ (hp : T Blk) (nx k : Nat) (s : Sv) : Sv × Bool :=
 match s with
 | .one c => (.one (xK hp nx k c).1, (xK hp nx k c).2)
 | .agg l => (.agg (pV hp nx k l).1, (pV hp nx k l).2)
 | s => (s, true)
def nK (hp : T Blk) (nx : Nat) : Nat → List Sv → List Sv × Bool
 | _, [] => ([], true)
 | k, s :: l => ((MJ hp nx k s).1 :: (nK hp nx (k + tE s) l).1, (MJ hp nx k s).2 && (nK hp nx (k + tE s) l).2)
def TV : Sc → Bool
 | .own _ _ => true
 | _ => false
def pW : List Sv → Bool
 | [] => false
 | .one c :: l => TV c || pW l
 | .agg cs :: l => cs.any TV || pW l
 | _ :: l => pW l
def GL (E : Emb) (w : World) (nx : Nat) (rr : Nat → Option Value) : Emb := ⟨E.b, fun i j => if i = nx then rr j else E.r i j, fun B o => w.cell? ⟨B, o, none⟩, E.d, E.dl, E.m⟩
theorem DP {η : Env} {E : Emb} {hp : T Blk} {nx top lo base : Nat} {w : World} (hH : aD η E hp top lo base w) (hn : ∀ j, E.r nx j = none) (rr : Nat → Option Value) : E.le (GL E w nx rr) :=
 ⟨fun _ _ h => h, fun k j v h => by
  show (if k = nx then rr j else E.r k j) = some v
  by_cases e : k = nx
  ·subst e; rw [hn] at h; cases h
  ·rw [if_neg e]; exact h, hH.zw, fun _ _ _ h => h⟩
theorem B6 {η : Env} {E : Emb} {hp : T Blk} {nx top lo base : Nat} {w : World} (hH : aD η E hp top lo base w) (hn : ∀ j, E.r nx j = none) {rr : Nat → Option Value} {k : Nat} {c : Sc} {v : Value} (hb : (xK hp nx k c).2 = true) (hv : c.den η E = some v) (hr : rr k = some v) : (xK hp nx k c).1.den η (GL E w nx rr) = some v := by
 unfold xK at hb ⊢
 split at hb
 ·rename_i b n
  split at hb
  ·rename_i e cs n' f hbk
   have hnn : n ≤ n' := Nat.le_of_ble_eq_true hb
   obtain ⟨B, K, hE, rfl, hnK⟩ : ∃ B K, E b = some (B, K) ∧ v = .slice (some ⟨B, 0, none⟩) n K ∧ n ≤ K := hU (η := η) (b := b) (n := n) hv
   refine aI.2 ⟨by simp [Ref.val, GL, hr], ?_⟩
   obtain ⟨B', K', hE', c, h1, h2, h3, h4, h5, h6⟩ := hH.cell b _ hbk
   rw [hE] at hE'; cases hE'
   refine ⟨_, _, rfl, hnK, h4, .inr ⟨B, 0, rfl, fun i hi j hj => ?_⟩⟩
   obtain ⟨k1, u, k2, k3⟩ := h6 i (by omega) j hj
   refine ⟨k1, u, ?_, k3.mono hH.zw⟩
   show w.cell? ⟨B, 0 + (i * cs.length + j), none⟩ = some u
   rw [Nat.zero_add, cell_of_row w B _ c e (0, 0) h1, k2]
  ·exact Sc.den_mono (DP hH hn rr) hv
 ·exact Sc.den_mono (DP hH hn rr) hv
theorem xL {η : Env} {E : Emb} {hp : T Blk} {nx top lo base : Nat} {w : World} (hH : aD η E hp top lo base w) (hn : ∀ j, E.r nx j = none) {rr : Nat → Option Value} : ∀ {l : List Sc} {k : Nat} {vs : List Value}, (pV hp nx k l).2 = true → aL η E l = some vs → (∀ i v, vs[i]? = some v → rr (k + i) = some v) → aL η (GL E w nx rr) (pV hp nx k l).1 = some vs
 | [], k, vs, _, hv, _ => hv
 | c :: l, k, vs, hb, hv, hr => by
  obtain ⟨v, us, h1, h2, rfl⟩ := aP hv
  simp only [pV, Bool.and_eq_true] at hb ⊢
  have e1 := B6 hH hn hb.1 h1 (hr 0 v rfl)
  have e2 := xL hH hn (rr := rr) hb.2 h2 (fun i v hi => by have := hr (i + 1) v (by simpa using hi); rwa [show k + 1 + i = k + (i + 1) by omega])
  simp only [aL, e1, e2]
def pJ : List Sv → List Value → List Value
 | [], _ => []
 | _, [] => []
 | .one _ :: l, v :: vs => v :: pJ l vs
 | .agg _ :: l, v :: vs => v.cells.toList ++ pJ l vs
 | _ :: l, _ :: vs => pJ l vs
theorem B7 {η : Env} {E : Emb} {hp : T Blk} {nx top lo base : Nat} {w : World} (hH : aD η E hp top lo base w) (hn : ∀ j, E.r nx j = none) {rr : Nat → Option Value} : ∀ {l : List Sv} {k : Nat} {vs : List Value}, (nK hp nx k l).2 = true → aB η E l = some vs → (∀ i v, (pJ l vs)[i]? = some v → rr (k + i) = some v) → aB η (GL E w nx rr) (nK hp nx k l).1 = some vs
 | [], k, vs, _, hv, _ => hv
 | s :: l, k, vs, hb, hv, hr => by
  obtain ⟨v, us, h1, h2, rfl⟩ := aG hv
  simp only [nK, Bool.and_eq_true] at hb ⊢
  have e1 : (MJ hp nx k s).1.den η (GL E w nx rr) = some v := by
   cases s with
   | one c => exact B6 hH hn hb.1 h1 (hr 0 v (by simp [pJ]))
   | agg cs =>
    obtain ⟨ws, g1, rfl⟩ := fO h1
    have := xL hH hn (rr := rr) hb.1 g1 (fun i u hi => hr i u (by
     simp only [pJ, Value.cells]
     rw [List.getElem?_append_left (by simpa using (List.getElem?_eq_some_iff.1 hi).1)]; exact hi))
    simp only [MJ, Sv.den, this, Option.map_some]
   | tup l => exact Sv.den_mono (DP hH hn rr) h1
   | undef => exact h1
  have e2 := B7 hH hn (rr := rr) hb.2 h2 (fun i u hi => by
   cases s with
   | one c => have := hr (i + 1) u (by simpa [pJ] using hi); rwa [show k + tE (.one c) + i = k + (i + 1) by simp only [tE]; omega]
   | agg cs =>
    obtain ⟨ws, g1, rfl⟩ := fO h1
    have hl := aY g1
    have := hr (cs.length + i) u (by
     simp only [pJ, Value.cells]
     rw [List.getElem?_append_right (by simp [hl])]
     simpa [hl] using hi)
    rwa [show k + tE (.agg cs) + i = k + (cs.length + i) by simp only [tE]; omega]
   | tup l => exact hr i u hi
   | undef => exact hr i u hi)
  simp only [aB, e1, e2]

theorem xM {η : Env} {E : Emb} {hp : T Blk} {nx top lo base : Nat} {w : World} (hH : aD η E hp top lo base w) (hn : ∀ j, E.r nx j = none) {l : List Sv} {vs : List Value} (hb : (nK hp nx 0 l).2 = true) (hv : aB η E l = some vs) :
  aB η (GL E w nx fun i => (pJ l vs)[i]?) (nK hp nx 0 l).1 = some vs :=
 B7 hH hn hb hv (fun i v hi => by rw [Nat.zero_add]; exact hi)

/-! ## New memory that a call hands back -/
theorem aD.addE {η : Env} {E : Emb} {hp : T Blk} {nx lo base n m : Nat} {w w' : World} {rr : Nat → Option Value} (hH : aD η E hp nx lo base w) (hb : Below w.heap.size w w') (hn : n < m) (hnm : nx ≤ m) (hm : m ≤ 65000) (hr : ∀ j, E.r n j = none) (hf : ∀ i, m ≤ i → E i = none) (hrf : ∀ i, m ≤ i → ∀ j, E.r i j = none) (hnw : ∀ j u, rr j = some u → nO w.heap.size u) :
  E.le (addE E w w' rr n) ∧ aD η (Go.Ex.addE E w w' rr n) hp m lo base w' := by
 have hle : E.le (Go.Ex.addE E w w' rr n) := ⟨fun _ _ h => h, (fun k j v h => by
  simp only [Go.Ex.addE]
  split
  ·rename_i e; subst e; rw [hr] at h; cases h
  ·exact h), (fun B o v h => by
  simp only [Go.Ex.addE]
  rw [if_neg (by have := hH.zlt h; omega)]; exact h), fun _ _ _ h => h⟩
 have h1 := hH.below hb
 refine ⟨hle, fun i b hi => Nat.lt_of_lt_of_le (hH.dom i b hi) hnm, fun i b hi => ?_, h1.inj, h1.hi, h1.top, h1.bot, hf, hm, fun B o v hz => ?_, fun i b B K hi ho hE o => ?_, fun k hk j => ?_, fun D o hD => ⟨(h1.dk D o hD).1, (h1.dk D o hD).2.1, (h1.dk D o hD).2.2.1.of (fun j v hv => by
  simp only [Go.Ex.addE] at hv
  rw [if_neg (by have := (Array.getElem?_eq_some_iff.1 (hH.dk D o hD).2.1).1; omega)] at hv
  exact hv) (fun q i L h => ⟨q, i, L, h⟩), (h1.dk D o hD).2.2.2⟩, ⟨fun k j v hk hv => ?_, fun B o v hB hz => ?_⟩, h1.mt.keep (fun _ _ => rfl) hnm h1.mt.hi (Nat.le_refl _) (fun _ _ _ _ _ _ _ _ hg => ⟨hg, rfl⟩) hle.z (fun _ _ => rfl) (fun _ _ => rfl) (fun B hB o => by
  simp only [Go.Ex.addE]
  rw [if_neg (by have := hB.lt hH.mt; omega)]
  exact hH.mt.z B hB o) h1.mt.own⟩
 ·obtain ⟨B, K, e1, e2⟩ := h1.cell i b hi
  exact ⟨B, K, e1, e2.mono hle⟩
 ·simp only [Go.Ex.addE] at hz
  split at hz
  ·exact hz
  ·exact h1.zw B o v hz
 ·simp only [Go.Ex.addE]
  have := hH.top i B K hE
  rw [if_neg (by omega)]
  exact hH.zd i b B K hi ho hE o
 ·simp only [Go.Ex.addE]
  rw [if_neg (by omega)]
  exact hrf k hk j
 ·simp only [Go.Ex.addE] at hv
  split at hv
  ·intro a n' c e hn'
   exact Nat.le_trans hH.bot (hnw j v hv a n' c e hn')
  ·exact hH.rn.1 k j v hk hv
 ·simp only [Go.Ex.addE] at hz
  rw [if_neg (by have := hH.bot; omega)] at hz
  exact hH.rn.2 B o v hB hz

def DQ (g : List Sv → PC → aA (Sv × PC)) (hp : T Blk) (nx : Nat) (args : List Sv) (pc : PC) : aA (Sv × PC) :=
 bif pW args then chk (nK hp nx 0 args).2 ((g (nK hp nx 0 args).1 pc).bind fun r => bif below 0 r.1 then .leaf r else .fail)
 else g args pc
/-- Slices of slices are none of these; each slice is a root. -/
def tF : Sc → Bool
 | .fz (.root _ _) (.list cs _ _) => cs.all fun s => match s with
  | .list _ => false
  | _ => true
 | .fz _ _ => false
 | .fptr _ _ _ _ _ _ => false
 | .ptr (some _) => false
 | .slice (some _) _ _ => false
 | .map (some _) => false
 | .asl _ _ _ => false
 | .aptr _ _ => false
 | .fn _ _ => false
 | .own _ _ => false
 | .rptr _ _ _ _ => false
 | .mown _ _ _ _ => false
 | .mptr _ _ _ _ => false
 | _ => true
def J1 : Sv → Bool
 | .one c => tF c
 | .agg l => l.all tF
 | .tup l => l.all fun p => p.2.all tF
 | .undef => true
def pX (g : List Sv → PC → aA (Sv × PC)) (hp : T Blk) (nx : Nat) (args : List Sv) (pc : PC) : aA (Sv × PC) :=
 bif pW args then chk (nK hp (nx + 1) 0 args).2 ((g (nK hp (nx + 1) 0 args).1 pc).bind fun r => bif J1 r.1 then .leaf r else .fail) else g args pc

theorem bB.flat {z z' : Nat → Nat → Option Value} {d : FD} {s : Sh} {v : Value} (hs : (match s with | .list _ => false | _ => true) = true) (he : s.ex d = d) (h : bB z d v) : bB z' d v := by
 cases s with
 | list cs => cases hs
 | bool => rw [← he] at h ⊢; exact h
 | int k => rw [← he] at h ⊢; exact h
 | str => rw [← he] at h ⊢; exact h
theorem GM {p : Sh → Bool} : ∀ {cs : List Sh} {j : Nat}, cs.all p = true → j < cs.length → p (iD cs j) = true
 | [], j, _, hj => by simp at hj
 | s :: l, 0, h, _ => by
  simp only [List.all_cons, Bool.and_eq_true] at h
  exact h.1
 | s :: l, j + 1, h, hj => by
  simp only [List.all_cons, Bool.and_eq_true] at h
  exact GM (cs := l) (j := j) h.2 (by simpa using hj)
theorem xN {η : Env} {E E1 : Emb} {w w' : World} {rr : Nat → Option Value} {n : Nat} (hnw : ∀ j u, rr j = some u → nO w.heap.size u) {c : Sc} {v : Value} (hc : tF c = true) (h : (kD n c).den η (Go.Ex.addE E1 w w' rr n) = some v) : (kD n c).den η (Go.Ex.addE E w w' rr n) = some v := by
 cases c with
 | fz r d =>
  cases r with
  | root k j =>
   cases d with
   | list cs m f =>
    simp only [kD, GZ, Sc.den] at h ⊢
    obtain ⟨h1, h2⟩ := aI.1 h
    refine aI.2 ⟨?_, ?_⟩
    ·simpa [Ref.val, Go.Ex.addE] using h1
    ·obtain ⟨a, c, rfl, q1, q2, q3⟩ := h2
     refine ⟨a, c, rfl, q1, q2, ?_⟩
     rcases Nat.eq_zero_or_pos m with hm | hm
     ·exact .inl hm
     ·rcases q3 with q3 | ⟨B, o, rfl, hcell⟩
      ·omega
      ·have hB : w.heap.size ≤ B := by
        have h1' : rr j = some (.slice (some ⟨B, o, none⟩) m c) := by simpa [Ref.val, Go.Ex.addE] using h1
        exact hnw j _ h1' _ _ _ rfl hm
       refine .inr ⟨B, o, rfl, fun i hi j hj => ?_⟩
       obtain ⟨k1, u, k2, k3⟩ := hcell i hi j hj
       refine ⟨k1, u, ?_, bB.flat (GM hc hj) k1 k3⟩
       simp only [Go.Ex.addE, if_pos hB] at k2 ⊢
       exact k2
   | _ => cases hc
  | _ => cases hc
 | ptr a => cases a with
  | none => exact h
  | some a => cases hc
 | slice a m k => cases a with
  | none => cases k <;> exact h
  | some a => cases hc
 | map r => cases r with
  | none => exact h
  | some b => cases hc
 | asl b k c => cases hc
 | aptr b o => cases hc
 | fn f cs => cases hc
 | fptr r cs n f i j => cases hc
 | own b k => cases hc
 | rptr b sz i j => cases hc
 | mown b q i n => cases hc
 | mptr b q i j => cases hc
 | _ => exact h
theorem tG {η : Env} {E E1 : Emb} {w w' : World} {rr : Nat → Option Value} {n : Nat} (hnw : ∀ j u, rr j = some u → nO w.heap.size u) : ∀ {l : List Sc} {vs : List Value}, l.all tF = true → aL η (Go.Ex.addE E1 w w' rr n) (l.map (kD n)) = some vs → aL η (Go.Ex.addE E w w' rr n) (l.map (kD n)) = some vs
 | [], vs, _, h => h
 | c :: l, vs, hc, h => by
  simp only [List.all_cons, Bool.and_eq_true] at hc
  obtain ⟨v, us, h1, h2, rfl⟩ := aP h
  simp only [List.map_cons, aL, xN hnw hc.1 h1, tG hnw hc.2 h2]
theorem pK {η : Env} {E E1 : Emb} {w w' : World} {rr : Nat → Option Value} {n : Nat} (hnw : ∀ j u, rr j = some u → nO w.heap.size u) : ∀ {l : List (Bool × List Sc)} {vs : List Value}, (l.all fun p => p.2.all tF) = true → aN η (Go.Ex.addE E1 w w' rr n) (l.map fun p => (p.1, p.2.map (kD n))) = some vs → aN η (Go.Ex.addE E w w' rr n) (l.map fun p => (p.1, p.2.map (kD n))) = some vs
 | [], vs, _, h => h
 | (b, c) :: l, vs, hc, h => by
  simp only [List.all_cons, Bool.and_eq_true] at hc
  simp only [List.map_cons, aN] at h ⊢
  cases h1 : bP η (Go.Ex.addE E1 w w' rr n) (b, c.map (kD n)) with
  | none => simp [h1] at h
  | some x =>
   cases h2 : aN η (Go.Ex.addE E1 w w' rr n) (l.map fun p => (p.1, p.2.map (kD n))) with
   | none => simp [h1, h2] at h
   | some y =>
    have e2 := pK (E := E) hnw hc.2 h2
    have e1 : bP η (Go.Ex.addE E w w' rr n) (b, c.map (kD n)) = some x := by
     cases b with
     | true =>
      simp only [bP] at h1 ⊢
      cases h3 : aL η (Go.Ex.addE E1 w w' rr n) (c.map (kD n)) with
      | none => rw [h3] at h1; cases h1
      | some z => rw [h3] at h1; rw [tG hnw hc.1 h3]; exact h1
     | false =>
      cases c with
      | nil => cases h1
      | cons c l => cases l with
       | nil =>
        simp only [List.all_cons, Bool.and_eq_true] at hc
        exact xN hnw hc.1.1 h1
       | cons d l => cases h1
    rw [e1, e2]; simpa [h1, h2] using h
theorem N5 {η : Env} {E E1 : Emb} {w w' : World} {rr : Nat → Option Value} {n : Nat} (hnw : ∀ j u, rr j = some u → nO w.heap.size u) {s : Sv} {v : Value} (hs : J1 s = true) (h : (jA n s).den η (Go.Ex.addE E1 w w' rr n) = some v) : (jA n s).den η (Go.Ex.addE E w w' rr n) = some v := by
 cases s with
 | one c => exact xN hnw hs h
 | agg l =>
  simp only [jA, Sv.den] at h ⊢
  cases h3 : aL η (Go.Ex.addE E1 w w' rr n) (l.map (kD n)) with
  | none => rw [h3] at h; cases h
  | some z => rw [h3] at h; rw [tG hnw hs h3]; exact h
 | tup l =>
  simp only [jA, Sv.den] at h ⊢
  cases h3 : aN η (Go.Ex.addE E1 w w' rr n) (l.map fun p => (p.1, p.2.map (kD n))) with
  | none => rw [h3] at h; cases h
  | some z => rw [h3] at h; rw [pK hnw hs h3]; exact h
 | undef => exact h

def rU (C : Cx) (ih : FI → List Sv → St → aA (Sv × St)) (f : FuncId) (args : List Sv) (st : St) : aA (Sv × St) :=
 match C.sm.get f with
 | some g => (DQ g st.hp st.nx args st.pc).bind fun r => .leaf (r.1, { st with pc := r.2 })
 | none => match C.hs.get f with
  | some g => (g st.hp args st.pc).bind fun r => .leaf (r.1, { st with pc := r.2 })
  | none => match C.gs.get f with
   | some g => match Nat.ble (st.nx + 1) 65000 with
    | true => (pX g st.hp st.nx args st.pc).bind fun r => .leaf (jA st.nx r.1, { st with nx := st.nx + 1, pc := r.2 })
    | false => .fail
   | none => match C.ft.get f with
    | some fi => match fi.quiet with
     | true => match C.es.get f with
      | some g => (g st.hp st.nx st.lo args st.pc).bind fun r => .leaf (r.1, { st with hp := r.2.1.1, nx := r.2.1.2, pc := r.2.2 })
      | none => (ih fi args { st with lo := st.nx }).bind fun r => bif below st.nx r.1 then .leaf (r.1, { st with pc := r.2.pc }) else .fail
     | false => match C.es.get f with
      | some g => (g st.hp st.nx st.lo args st.pc).bind fun r => .leaf (r.1, { st with hp := r.2.1.1, nx := r.2.1.2, pc := r.2.2 })
      | none => (ih fi args st).bind fun r => .leaf (r.1, { st with hp := r.2.hp, nx := r.2.nx, pc := r.2.pc })
    | none => .fail

theorem xO {C : Cx} {P : Program} {η : Env} (hC : C.Ok P η) {f : FuncId} {g : List Sv → PC → aA (Sv × PC)} (hg : C.sm.get f = some g) {hp : T Blk} {nx top : Nat} {args : List Sv} {pc : PC} {r : Sv × PC} (h : (DQ g hp nx args pc).at_ η = some r) (hpc : pc.holds η) :
  r.2.holds η ∧ ∀ E lo base w vs, aD η E hp top lo base w → (∀ j, E.r nx j = none) → aB η E args = some vs → ∃ v, r.1.den η E = some v ∧ u9 P f vs.toArray w v := by
 unfold DQ at h
 cases ha : pW args with
 | false =>
  rw [ha] at h
  obtain ⟨h1, h2⟩ := hC.sm f g hg args pc r.1 r.2 h hpc
  exact ⟨h1, fun E lo base w vs hH _ hv => h2 E vs w hH.zw hv⟩
 | true =>
  rw [ha] at h
  simp only [cond_true] at h
  obtain ⟨hb, h⟩ := fF h
  obtain ⟨r1, e1, e2⟩ := aA.at_bind h
  cases hbl : below 0 r1.1 with
  | false => rw [hbl] at e2; cases e2
  | true =>
   rw [hbl] at e2; cases e2
   obtain ⟨h1, h2⟩ := hC.sm f g hg _ pc r.1 r.2 e1 hpc
   refine ⟨h1, fun E lo base w vs hH hrn hv => ?_⟩
   have := xM hH hrn hb hv
   obtain ⟨v, q1, q2⟩ := h2 _ vs w (fun B o v h => h) this
   refine ⟨v, ?_, q2⟩
   rw [← Sv.den_agree (n := 0) (E := E) (E' := GL E w nx fun i => (pJ args vs)[i]?) ⟨(fun i hi => by omega), (fun k hk => by omega), hH.zw, fun _ _ h => h, rfl, fun _ _ _ => rfl⟩ hbl]
   exact q1
theorem pY {C : Cx} {P : Program} {η : Env} (hC : C.Ok P η) {f : FuncId} {g : List Sv → PC → aA (Sv × PC)} (hg : C.gs.get f = some g) {hp : T Blk} {nx top : Nat} {args : List Sv} {pc : PC} {r : Sv × PC} (h : (pX g hp nx args pc).at_ η = some r) (hpc : pc.holds η) :
  r.2.holds η ∧ ∀ E lo base w vs, aD η E hp top lo base w → (∀ j, E.r (nx + 1) j = none) → aB η E args = some vs → (callFunc f vs.toArray).run P w = .ok (.enter f vs.toArray) w ∧ ∀ n, n ≠ nx + 1 → (∀ j, E.r n j = none) → Calls P f vs.toArray w fun e w' => ∃ v rr, e = .returned v ∧ Below w.heap.size w w' ∧ (∀ j u, rr j = some u → nO w.heap.size u) ∧ (jA n r.1).den η (Go.Ex.addE E w w' rr n) = some v := by
 unfold pX at h
 cases ha : pW args with
 | false =>
  rw [ha] at h
  obtain ⟨h1, h2⟩ := hC.gs f g hg args pc r.1 r.2 h hpc
  exact ⟨h1, fun E lo base w vs hH _ hv => ⟨(h2 E vs w hH.zw hv).1, fun n _ hn => (h2 E vs w hH.zw hv).2 n hn⟩⟩
 | true =>
  rw [ha] at h
  simp only [cond_true] at h
  obtain ⟨hb, h⟩ := fF h
  obtain ⟨r1, e1, e2⟩ := aA.at_bind h
  cases hbl : J1 r1.1 with
  | false => rw [hbl] at e2; cases e2
  | true =>
   rw [hbl] at e2; cases e2
   obtain ⟨h1, h2⟩ := hC.gs f g hg _ pc r.1 r.2 e1 hpc
   refine ⟨h1, fun E lo base w vs hH hrn hv => ?_⟩
   obtain ⟨k1, k2⟩ := h2 _ vs w (fun B o v h => h) (xM hH hrn hb hv)
   refine ⟨k1, fun n hnn hn => (k2 n fun j => ?_).mono ?_⟩
   ·show (if n = nx + 1 then _ else E.r n j) = none
    rw [if_neg hnn]; exact hn j
   ·rintro e w' ⟨v, rr, rfl, q1, q2, q3⟩
    exact ⟨v, rr, rfl, q1, q2, N5 q2 hbl q3⟩

theorem cA {P : Program} {f : FuncId} {fi : FI} (h : FI.Ok P f fi) (args : Array Value) (w : World) : (callFunc f args).run P w = .ok (.enter f args) w := by
 obtain ⟨fn, h1, h2, _, _, h5⟩ := h.fn
 have h5' : ¬ fn.name = "runtime.NumGoroutine" := by simpa using h5
 simp [callFunc, h1, h5', h2]

/-- A call, met at an operation. -/
theorem rV {C : Cx} {P : Program} {η : Env} (hC : C.Ok P η) {ih : FI → List Sv → St → aA (Sv × St)} (hih : eR P η ih) {f : FuncId} {args : List Sv} {st : St} {r : Sv × St} (hpc : st.pc.holds η) (hlo : st.lo ≤ st.nx)
  (h : (rU C ih f args st).at_ η = some r) :
  r.2.lo = st.lo ∧ r.2.tm = st.tm ∧ ∀ E base w0 w vs, aD η E st.hp st.nx st.lo base w → Below base w0 w → aB η E args = some vs →
   (∃ v, r.1.den η E = some v ∧ (callFunc f vs.toArray).run P w = .ok (.value v) w ∧ r.2.hp = st.hp ∧ r.2.nx = st.nx ∧ r.2.pc.holds η) ∨
   ((callFunc f vs.toArray).run P w = .ok (.enter f vs.toArray) w ∧ Calls P f vs.toArray w fun e w' => ∃ v E', e = .returned v ∧ r.1.den η E' = some v ∧ aH E E' st.nx ∧ aD η E' r.2.hp r.2.nx st.lo base w' ∧ Below base w0 w' ∧ r.2.pc.holds η ∧ st.nx ≤ r.2.nx) := by
 unfold rU at h
 split at h
 ·rename_i g hg
  obtain ⟨⟨sv, pc⟩, h1, h2⟩ := aA.at_bind h
  cases h2
  -- a summary
  obtain ⟨hp1, hg1⟩ := xO hC hg (top := st.nx) h1 hpc
  refine ⟨rfl, rfl, fun E base w0 w vs hH hB hv => ?_⟩
  obtain ⟨v, e1, e2⟩ := hg1 E _ _ w vs hH (hH.rfree _ (Nat.le_refl _)) hv
  rcases e2 with e2 | ⟨e2, e3⟩
  ·exact .inl ⟨v, e1, e2, rfl, rfl, hp1⟩
  ·refine .inr ⟨e2, e3.mono ?_⟩
   rintro e w' ⟨rfl, hb⟩
   exact ⟨v, E, rfl, e1, aH.refl _ _, hH.below hb, hB.trans (hb.mono hH.bot), hp1, Nat.le_refl _⟩
 ·split at h
  ·rename_i g hg
   obtain ⟨⟨sv, pc⟩, h1, h2⟩ := aA.at_bind h
   cases h2
   obtain ⟨hp1, hg1⟩ := hC.hs f g hg st.hp args st.pc sv pc h1 hpc
   refine ⟨rfl, rfl, fun E base w0 w vs hH hB hv => ?_⟩
   obtain ⟨v, e1, e2⟩ := hg1 E vs _ _ _ w hH hv
   rcases e2 with e2 | ⟨e2, e3⟩
   ·exact .inl ⟨v, e1, e2, rfl, rfl, hp1⟩
   ·refine .inr ⟨e2, e3.mono ?_⟩
    rintro e w' ⟨rfl, hb⟩
    exact ⟨v, E, rfl, e1, aH.refl _ _, hH.below hb, hB.trans (hb.mono hH.bot), hp1, Nat.le_refl _⟩
  split at h
  ·rename_i g hg
   split at h
   ·rename_i hnx
    have hnx := Nat.le_of_ble_eq_true hnx
    obtain ⟨⟨sv, pc⟩, h1, h2⟩ := aA.at_bind h
    cases h2
    obtain ⟨hp1, hg1⟩ := pY hC hg (top := st.nx) h1 hpc
    refine ⟨rfl, rfl, fun E base w0 w vs hH hB hv => ?_⟩
    obtain ⟨e1, e2⟩ := hg1 E _ _ w vs hH (hH.rfree _ (Nat.le_succ _)) hv
    refine .inr ⟨e1, (e2 st.nx (by omega) (hH.rfree _ (Nat.le_refl _))).mono ?_⟩
    rintro e w' ⟨v, rr, rfl, hb, hnw, hd⟩
    obtain ⟨q1, q2⟩ := hH.addE (n := st.nx) (m := st.nx + 1) (rr := rr) hb (Nat.lt_succ_self _) (Nat.le_succ _) hnx (hH.rfree _ (Nat.le_refl _)) (fun i hi => hH.free i (by omega)) (fun i hi => hH.rfree i (by omega)) hnw
    refine ⟨v, _, rfl, hd, ⟨fun _ _ => rfl, fun k hk j => ?_, q1.z, fun _ _ h => h, rfl, fun _ _ _ => rfl⟩, q2, hB.trans (hb.mono hH.bot), hp1, Nat.le_succ _⟩
    simp only [addE]
    rw [if_neg (by omega)]
   ·cases h
  split at h
  ·rename_i fi hfi
   have hF := hC.ft f fi hfi
   split at h
   ·split at h
    ·rename_i g hg
     obtain ⟨r1, h1, h2⟩ := aA.at_bind h
     cases h2
     exact ⟨rfl, rfl, fun E base w0 w vs hH hB hv => .inr (hC.es f g hg st.hp st.nx st.lo args st.pc r1 h1 hpc hlo E base w0 w vs hH hB hv)⟩
    obtain ⟨r1, h1, h2⟩ := aA.at_bind h
    cases hb : below st.nx r1.1 with
    | false => rw [hb] at h2; cases h2
    | true =>
     rw [hb] at h2; cases h2
     have g3 := hih fi args { st with lo := st.nx } r1 h1 f hF hpc (Nat.le_refl _)
     refine ⟨rfl, rfl, fun E base w0 w vs hH hB hv => .inr ⟨cA hF _ w, ?_⟩⟩
     refine (g3 E.z00 w.heap.size w w vs hH.z00 (Below.refl _ _) (dN E.le_z00 hv)).mono ?_
     rintro e w' ⟨v, E', rfl, e1, e2, _, e4, e5, _⟩
     refine ⟨v, E, rfl, ?_, aH.refl _ _, hH.below e4, hB.trans (e4.mono hH.bot), e5, Nat.le_refl _⟩
     rw [Sv.den_agree e2 hb] at e1
     exact Sv.den_mono E.z00_le e1
   ·split at h
    ·rename_i g hg
     obtain ⟨r1, h1, h2⟩ := aA.at_bind h
     cases h2
     exact ⟨rfl, rfl, fun E base w0 w vs hH hB hv => .inr (hC.es f g hg st.hp st.nx st.lo args st.pc r1 h1 hpc hlo E base w0 w vs hH hB hv)⟩
    obtain ⟨r1, h1, h2⟩ := aA.at_bind h
    cases h2
    have g3 := hih fi args st r1 h1 f hF hpc hlo
    exact ⟨rfl, rfl, fun E base w0 w vs hH hB hv => .inr ⟨cA hF _ w, g3 E base w0 w vs hH hB hv⟩⟩
  ·cases h

end
end Go.Ex

