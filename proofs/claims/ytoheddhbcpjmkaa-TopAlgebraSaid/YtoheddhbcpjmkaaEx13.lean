/-
  The executor: states, one operation, the results of a call.
-/
import Derived.Test.YtoheddhbcpjmkaaEx12
namespace Go.Ex
open Go Go.RowKit
noncomputable section

structure St where
  tm : T Sv
  hp : T Blk
  nx : Nat
  lo : Nat
  pc : PC

structure SRel (η : Env) (E : Emb) (nt base : Nat) (w0 : World) (st : St) (a : Act) (w : World) : Prop where
  fr : FRel η E st.tm a
  sz : a.tmps.size = nt
  nt : nt ≤ 60000
  df : a.defers = []
  hr : HRel η E st.hp st.nx st.lo base w
  bl : Below base w0 w
  lo : st.lo ≤ st.nx
  pc : st.pc.holds η

/-- E' is E below n. -/
def Agree (E E' : Emb) (n : Nat) : Prop := ∀ i, i < n → E' i = E i
theorem Agree.refl (E : Emb) (n : Nat) : Agree E E n := fun _ _ => rfl
theorem Agree.trans {E E' E'' : Emb} {n m : Nat} (h : Agree E E' n) (h' : Agree E' E'' m) (hm : n ≤ m) : Agree E E'' n := fun i hi => (h' i (by omega)).trans (h i hi)
theorem Agree.le {η : Env} {E E' : Emb} {hp : T Blk} {nx lo base : Nat} {w : World} (h : Agree E E' nx) (hr : HRel η E hp nx lo base w) : E.le E' := by
  intro b x hb
  by_cases hlt : b < nx
  · rw [h b hlt]; exact hb
  · rw [hr.free b (by omega)] at hb; cases hb

def ptrOk (n : Nat) : Sc → Bool
  | .ptr (some (b, _)) => Nat.blt b n
  | .slice (some (b, _)) _ _ => Nat.blt b n
  | .map (some b) => Nat.blt b n
  | .asl b _ _ => Nat.blt b n
  | .aptr b _ => Nat.blt b n
  | .fn _ cs => cs.all fun p => Nat.blt p.1 n
  | _ => true
def below (n : Nat) : Sv → Bool
  | .one c => ptrOk n c
  | .agg l => l.all (ptrOk n)
  | .tup l => l.all fun p => p.2.all (ptrOk n)
  | .undef => true

theorem Sc.den_agree {η : Env} {E E' : Emb} {n : Nat} (h : Agree E E' n) {c : Sc} (hc : ptrOk n c = true) : c.den η E' = c.den η E := by
  cases c with
  | ptr a => cases a with
    | none => rfl
    | some a =>
      obtain ⟨b, o⟩ := a
      simp only [ptrOk] at hc
      simp only [Sc.den, denAddr, h b (Nat.le_of_ble_eq_true hc)]
  | slice a m c => cases a with
    | none => cases c <;> rfl
    | some a =>
      obtain ⟨b, o⟩ := a
      simp only [ptrOk] at hc
      cases c <;> simp only [Sc.den, denAddr, h b (Nat.le_of_ble_eq_true hc)]
  | map r => cases r with
    | none => rfl
    | some b =>
      simp only [ptrOk] at hc
      simp only [Sc.den, h b (Nat.le_of_ble_eq_true hc)]
  | asl b k c =>
    simp only [ptrOk] at hc
    simp only [Sc.den, h b (Nat.le_of_ble_eq_true hc)]
  | aptr b o =>
    simp only [ptrOk] at hc
    simp only [Sc.den, h b (Nat.le_of_ble_eq_true hc)]
  | fn f cs =>
    simp only [ptrOk] at hc
    have : denCaps E' cs = denCaps E cs := by
      induction cs with
      | nil => rfl
      | cons p cs ih =>
        simp only [List.all_cons, Bool.and_eq_true] at hc
        simp only [denCaps, denAddr, h p.1 (Nat.le_of_ble_eq_true hc.1), ih hc.2]
    simp only [Sc.den, this]
  | _ => rfl
theorem denL_agree {η : Env} {E E' : Emb} {n : Nat} (h : Agree E E' n) : ∀ {l : List Sc}, l.all (ptrOk n) = true → denL η E' l = denL η E l
  | [], _ => rfl
  | c :: l, hl => by
    simp only [List.all_cons, Bool.and_eq_true] at hl
    simp only [denL, Sc.den_agree h hl.1, denL_agree h hl.2]
theorem denPart_agree {η : Env} {E E' : Emb} {n : Nat} (h : Agree E E' n) {p : Bool × List Sc} (hp : p.2.all (ptrOk n) = true) : denPart η E' p = denPart η E p := by
  obtain ⟨b, l⟩ := p
  cases b with
  | true => simp only [denPart, denL_agree h hp]
  | false =>
    cases l with
    | nil => rfl
    | cons c l =>
      cases l with
      | nil =>
        simp only [List.all_cons, Bool.and_eq_true] at hp
        simp only [denPart, Sc.den_agree h hp.1]
      | cons d l => rfl
theorem denParts_agree {η : Env} {E E' : Emb} {n : Nat} (h : Agree E E' n) : ∀ {l : List (Bool × List Sc)}, (l.all fun p => p.2.all (ptrOk n)) = true → denParts η E' l = denParts η E l
  | [], _ => rfl
  | p :: l, hl => by
    simp only [List.all_cons, Bool.and_eq_true] at hl
    simp only [denParts, denPart_agree h hl.1, denParts_agree h hl.2]
theorem Sv.den_agree {η : Env} {E E' : Emb} {n : Nat} (h : Agree E E' n) {s : Sv} (hs : below n s = true) : s.den η E' = s.den η E := by
  cases s with
  | one c => exact Sc.den_agree h hs
  | agg l => simp only [Sv.den, denL_agree h hs]
  | tup l => simp only [Sv.den, denParts_agree h hs]
  | undef => rfl

/-! ## Results -/
def resV (C : Cx) (hp : T Blk) (tm : T Sv) : ResultVar → Option Sv
  | .tmp t => tm.get t
  | .cell a t => match tm.get a with
    | some s => loadX C hp t s
    | none => none
def toPart : Sv → Option (Bool × List Sc)
  | .one c => some (false, [c])
  | .agg l => some (true, l)
  | _ => none
def resL (C : Cx) (hp : T Blk) (tm : T Sv) : List ResultVar → Option (List (Bool × List Sc))
  | [] => some []
  | r :: l => match resV C hp tm r, resL C hp tm l with
    | some s, some m => match toPart s with
      | some p => some (p :: m)
      | none => none
    | _, _ => none
def resX (C : Cx) (hp : T Blk) (tm : T Sv) (l : List ResultVar) : Option Sv :=
  match l with
  | [r] => resV C hp tm r
  | l => match resL C hp tm l with
    | some m => some (.tup m)
    | none => none

def resSem (tmps : Array Value) : ResultVar → Sem Value
  | .tmp t => pure (tmps.getD t undef)
  | .cell a t => do loadVar t (← asAddr (tmps.getD a undef))

theorem resV_run {C : Cx} {P : Program} {η : Env} {E : Emb} (hC : C.Ok P η) {hp : T Blk} {nx lo base : Nat} {w : World} (hH : HRel η E hp nx lo base w) {tm : T Sv} {a : Act} (hf : FRel η E tm a) {r : ResultVar} {s : Sv} (h : resV C hp tm r = some s) :
    ∃ v, s.den η E = some v ∧ (resSem a.tmps r).run P w = .ok v w := by
  cases r with
  | tmp t =>
    obtain ⟨v, h1, h2⟩ := hf t s h
    exact ⟨v, h2, by simp [resSem, Array.getD_eq_getD_getElem?, h1]⟩
  | cell ad t =>
    simp only [resV] at h
    split at h
    · rename_i s' hs
      obtain ⟨va, h1, h2⟩ := hf ad s' hs
      obtain ⟨v, h3, h4⟩ := loadX_run hC hH h h2
      refine ⟨v, h3, ?_⟩
      unfold loadX at h
      split at h
      · rename_i b o
        obtain ⟨B, K, _, rfl⟩ := ptr_den h2
        have e : a.tmps.getD ad undef = .pointer (some ⟨B, o, none⟩) := by simp [Array.getD_eq_getD_getElem?, h1]
        simp only [resSem, e, asAddr, Sem.run_bind, Sem.run_pure, Result.andThen_ok]
        simpa [Instr.loadAt, Instr.sureAddr] using h4
      · rename_i b o
        obtain ⟨B, K, _, rfl⟩ := aptr_den h2
        have e : a.tmps.getD ad undef = .pointer (some ⟨B, K + o, none⟩) := by simp [Array.getD_eq_getD_getElem?, h1]
        simp only [resSem, e, asAddr, Sem.run_bind, Sem.run_pure, Result.andThen_ok]
        simpa [Instr.loadAt, Instr.sureAddr] using h4
      · cases h
    · cases h

theorem toPart_den {η : Env} {E : Emb} {s : Sv} {p : Bool × List Sc} {v : Value} (h : toPart s = some p) (hs : s.den η E = some v) : denPart η E p = some v := by
  cases s with
  | one c => cases h; exact hs
  | agg l => cases h; exact hs
  | tup l => cases h
  | undef => cases h

theorem resL_run {C : Cx} {P : Program} {η : Env} {E : Emb} (hC : C.Ok P η) {hp : T Blk} {nx lo base : Nat} {w : World} (hH : HRel η E hp nx lo base w) {tm : T Sv} {a : Act} (hf : FRel η E tm a) : ∀ {l : List ResultVar} {m}, resL C hp tm l = some m →
    ∃ vs, denParts η E m = some vs ∧ vs.length = l.length ∧ (l.mapM (resSem a.tmps)).run P w = .ok vs w
  | [], m, h => by cases h; exact ⟨[], rfl, rfl, by simp⟩
  | r :: l, m, h => by
    simp only [resL] at h
    split at h
    · rename_i s m' hs hm
      split at h
      · rename_i p hp'
        cases h
        obtain ⟨v, h1, h2⟩ := resV_run hC hH hf hs
        obtain ⟨vs, h3, h4, h5⟩ := resL_run hC hH hf hm
        exact ⟨v :: vs, by simp [denParts, toPart_den hp' h1, h3], by simp [h4], by simp [List.mapM_cons, h2, h5]⟩
      · cases h
    · cases h

theorem results_eq (fn : Func) (tmps : Array Value) (P : Program) (w : World) : (results fn tmps).run P w = ((fn.results.toList.mapM (resSem tmps)).run P w).andThen fun vs w' => .ok (if h : vs.length = 1 then vs[0] else .tuple vs.toArray) w' := by
  have e : ∀ f g : ResultVar → Sem Value, (∀ r, f r = g r) → (do let vs ← fn.results.mapM f; pure (if h : vs.size = 1 then vs[0] else .tuple vs) : Sem Value) = (do let vs ← fn.results.mapM g; pure (if h : vs.size = 1 then vs[0] else .tuple vs) : Sem Value) := by
    intro f g h
    rw [funext h]
  refine (congrArg (fun s => Sem.run P s w) (e _ (resSem tmps) (fun r => by cases r <;> rfl))).trans ?_
  rw [Array.mapM_eq_mapM_toList]
  simp only [Sem.run_bind, Sem.run_map]
  cases (fn.results.toList.mapM (resSem tmps)).run P w with
  | ok vs w' => simp
  | halt h w' => rfl

theorem resX_run {C : Cx} {P : Program} {η : Env} {E : Emb} (hC : C.Ok P η) {hp : T Blk} {nx lo base : Nat} {w : World} (hH : HRel η E hp nx lo base w) {tm : T Sv} {a : Act} (hf : FRel η E tm a) {fn : Func} {s : Sv} (h : resX C hp tm fn.results.toList = some s) :
    ∃ v, s.den η E = some v ∧ (results fn a.tmps).run P w = .ok v w := by
  rw [results_eq]
  unfold resX at h
  split at h
  · rename_i r hr
    obtain ⟨v, h1, h2⟩ := resV_run hC hH hf h
    exact ⟨v, h1, by rw [hr]; simp [h2]⟩
  · rename_i hl
    split at h
    · rename_i m hm
      cases h
      obtain ⟨vs, h1, h2, h3⟩ := resL_run hC hH hf hm
      refine ⟨.tuple vs.toArray, by simp [Sv.den, h1], ?_⟩
      rw [h3]
      have : ¬ vs.length = 1 := by
        intro e
        rw [h2] at e
        match hfr : fn.results.toList, e with
        | [r], _ => exact hl r hfr
      simp [this]
    · cases h

/-! ## One operation -/
def putSt (nt : Nat) (dst : Option Tmp) (sv : Sv) (st : St) : Tree St :=
  match dst with
  | none => .leaf st
  | some d => bif Nat.blt d nt then .leaf { st with tm := st.tm.set d (some sv) } else .fail

theorem putSt_run {η : Env} {E : Emb} {nt base : Nat} {w0 : World} {st st' : St} {a : Act} {w : World} {dst : Option Tmp} {sv : Sv} {v : Value} (h : (putSt nt dst sv st).at_ η = some st') (hr : SRel η E nt base w0 st a w) (hv : sv.den η E = some v) :
    SRel η E nt base w0 st' (a.put dst v) w ∧ st'.nx = st.nx ∧ st'.lo = st.lo ∧ st'.pc = st.pc ∧ st'.hp = st.hp := by
  unfold putSt at h
  split at h
  · cases h; exact ⟨⟨hr.fr, hr.sz, hr.nt, hr.df, hr.hr, hr.bl, hr.lo, hr.pc⟩, rfl, rfl, rfl, rfl⟩
  · rename_i d
    cases hd : Nat.blt d nt with
    | false => rw [hd] at h; cases h
    | true =>
      rw [hd] at h; cases h
      have hd := Nat.le_of_ble_eq_true hd
      exact ⟨⟨hr.fr.put (by have := hr.nt; omega) (by rw [hr.sz]; exact hd) hv, by simp [Act.put, hr.sz], hr.nt, hr.df, hr.hr, hr.bl, hr.lo, hr.pc⟩, rfl, rfl, rfl, rfl⟩

/-- What an executor of calls hands back is what the call hands back. -/
def CallOk (P : Program) (η : Env) (ih : FI → List Sv → St → Tree (Sv × St)) : Prop :=
  ∀ fi args st r, (ih fi args st).at_ η = some r → ∀ f, FI.Ok P f fi → st.pc.holds η → st.lo ≤ st.nx →
    ∀ E base w0 w vs, HRel η E st.hp st.nx st.lo base w → Below base w0 w → denArgs η E args = some vs →
      Calls P f vs.toArray w fun e w' => ∃ v E', e = .returned v ∧ r.1.den η E' = some v ∧ Agree E E' st.nx ∧ HRel η E' r.2.hp r.2.nx st.lo base w' ∧ Below base w0 w' ∧ r.2.pc.holds η ∧ st.nx ≤ r.2.nx

def callStep (C : Cx) (ih : FI → List Sv → St → Tree (Sv × St)) (f : FuncId) (args : List Sv) (st : St) : Tree (Sv × St) :=
  match C.sm.get f with
  | some g => (g args st.pc).bind fun r => .leaf (r.1, { st with pc := r.2 })
  | none => match C.hs.get f with
    | some g => (g st.hp args st.pc).bind fun r => .leaf (r.1, { st with pc := r.2 })
    | none => match C.ft.get f with
      | some fi => match fi.quiet with
        | true => (ih fi args { st with lo := st.nx }).bind fun r => bif below st.nx r.1 then .leaf (r.1, { st with pc := r.2.pc }) else .fail
        | false => (ih fi args st).bind fun r => .leaf (r.1, { st with hp := r.2.hp, nx := r.2.nx, pc := r.2.pc })
      | none => .fail

theorem run_callFunc {P : Program} {f : FuncId} {fi : FI} (h : FI.Ok P f fi) (args : Array Value) (w : World) : (callFunc f args).run P w = .ok (.enter f args) w := by
  obtain ⟨fn, h1, h2, _, _, h5⟩ := h.fn
  have h5' : ¬ fn.name = "runtime.NumGoroutine" := by simpa using h5
  simp [callFunc, h1, h5', h2]

/-- A call, met at an operation. -/
theorem callStep_run {C : Cx} {P : Program} {η : Env} (hC : C.Ok P η) {ih : FI → List Sv → St → Tree (Sv × St)} (hih : CallOk P η ih) {f : FuncId} {args : List Sv} {st : St} {r : Sv × St} (hpc : st.pc.holds η) (hlo : st.lo ≤ st.nx)
    (h : (callStep C ih f args st).at_ η = some r) :
    r.2.lo = st.lo ∧ r.2.tm = st.tm ∧ ∀ E base w0 w vs, HRel η E st.hp st.nx st.lo base w → Below base w0 w → denArgs η E args = some vs →
      (∃ v, r.1.den η E = some v ∧ (callFunc f vs.toArray).run P w = .ok (.value v) w ∧ r.2.hp = st.hp ∧ r.2.nx = st.nx ∧ r.2.pc.holds η) ∨
      ((callFunc f vs.toArray).run P w = .ok (.enter f vs.toArray) w ∧ Calls P f vs.toArray w fun e w' => ∃ v E', e = .returned v ∧ r.1.den η E' = some v ∧ Agree E E' st.nx ∧ HRel η E' r.2.hp r.2.nx st.lo base w' ∧ Below base w0 w' ∧ r.2.pc.holds η ∧ st.nx ≤ r.2.nx) := by
  unfold callStep at h
  split at h
  · rename_i g hg
    obtain ⟨⟨sv, pc⟩, h1, h2⟩ := Tree.at_bind h
    cases h2
    -- a summary
    obtain ⟨hp1, hg1⟩ := hC.sm f g hg args st.pc sv pc h1 hpc
    refine ⟨rfl, rfl, fun E base w0 w vs hH hB hv => ?_⟩
    obtain ⟨v, e1, e2⟩ := hg1 E vs w hv
    rcases e2 with e2 | ⟨e2, e3⟩
    · exact .inl ⟨v, e1, e2, rfl, rfl, hp1⟩
    · refine .inr ⟨e2, e3.mono ?_⟩
      rintro e w' ⟨rfl, hb⟩
      exact ⟨v, E, rfl, e1, Agree.refl _ _, hH.below hb, hB.trans (hb.mono hH.bot), hp1, Nat.le_refl _⟩
  · split at h
    · rename_i g hg
      obtain ⟨⟨sv, pc⟩, h1, h2⟩ := Tree.at_bind h
      cases h2
      obtain ⟨hp1, hg1⟩ := hC.hs f g hg st.hp args st.pc sv pc h1 hpc
      refine ⟨rfl, rfl, fun E base w0 w vs hH hB hv => ?_⟩
      obtain ⟨v, e1, e2⟩ := hg1 E vs _ _ _ w hH hv
      rcases e2 with e2 | ⟨e2, e3⟩
      · exact .inl ⟨v, e1, e2, rfl, rfl, hp1⟩
      · refine .inr ⟨e2, e3.mono ?_⟩
        rintro e w' ⟨rfl, hb⟩
        exact ⟨v, E, rfl, e1, Agree.refl _ _, hH.below hb, hB.trans (hb.mono hH.bot), hp1, Nat.le_refl _⟩
    split at h
    · rename_i fi hfi
      have hF := hC.ft f fi hfi
      split at h
      · obtain ⟨r1, h1, h2⟩ := Tree.at_bind h
        cases hb : below st.nx r1.1 with
        | false => rw [hb] at h2; cases h2
        | true =>
          rw [hb] at h2; cases h2
          have g3 := hih fi args { st with lo := st.nx } r1 h1 f hF hpc (Nat.le_refl _)
          refine ⟨rfl, rfl, fun E base w0 w vs hH hB hv => .inr ⟨run_callFunc hF _ w, ?_⟩⟩
          have hH' : HRel η E st.hp st.nx st.nx w.heap.size w := ⟨hH.dom, hH.cell, hH.inj, (fun i B K hi hE => by rw [hH.free i hi] at hE; cases hE), hH.top, Nat.le_refl _, hH.free, hH.lim⟩
          refine (g3 E w.heap.size w w vs hH' (Below.refl _ _) hv).mono ?_
          rintro e w' ⟨v, E', rfl, e1, e2, _, e4, e5, _⟩
          refine ⟨v, E, rfl, ?_, Agree.refl _ _, hH.below e4, hB.trans (e4.mono hH.bot), e5, Nat.le_refl _⟩
          rw [← Sv.den_agree e2 hb]; exact e1
      · obtain ⟨r1, h1, h2⟩ := Tree.at_bind h
        cases h2
        have g3 := hih fi args st r1 h1 f hF hpc hlo
        exact ⟨rfl, rfl, fun E base w0 w vs hH hB hv => .inr ⟨run_callFunc hF _ w, g3 E base w0 w vs hH hB hv⟩⟩
    · cases h

end
end Go.Ex
