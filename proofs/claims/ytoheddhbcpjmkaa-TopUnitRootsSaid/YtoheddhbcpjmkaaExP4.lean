/-
  The executor: states, one operation, the results of a call.
-/
/-
  The executor: one operation, a region in the text's order.
-/
/-
  The executor of code; that what it says of a call is so.
-/
/-
  What the executor of code says is so.
-/
import Derived.Test.YtoheddhbcpjmkaaExP3
import Derived.Orders
import Derived.Tactics
import Derived.LoopN

namespace Go.Ex
open Go Go.RowKit
noncomputable section

structure St where
  tm : T Sv
  hp : T Blk
  nx : Nat
  lo : Nat
  pc : PC

structure SRel (η : Env) (E : Emb) (nt base : Nat) (w0 : World) (st : St) (a : Act) (w : World) : Prop where
  fr : FRel η E st.tm a
  sz : a.tmps.size = nt
  nt : nt ≤ 60000
  df : a.defers = []
  hr : HRel η E st.hp st.nx st.lo base w
  bl : Below base w0 w
  lo : st.lo ≤ st.nx
  pc : st.pc.holds η

/-- E' is E below n. -/
def Agree (E E' : Emb) (n : Nat) : Prop := ∀ i, i < n → E' i = E i
theorem Agree.refl (E : Emb) (n : Nat) : Agree E E n := fun _ _ => rfl
theorem Agree.trans {E E' E'' : Emb} {n m : Nat} (h : Agree E E' n) (h' : Agree E' E'' m) (hm : n ≤ m) : Agree E E'' n := fun i hi => (h' i (by omega)).trans (h i hi)
theorem Agree.le {η : Env} {E E' : Emb} {hp : T Blk} {nx lo base : Nat} {w : World} (h : Agree E E' nx) (hr : HRel η E hp nx lo base w) : E.le E' := by
  intro b x hb
  by_cases hlt : b < nx
  · rw [h b hlt]; exact hb
  · rw [hr.free b (by omega)] at hb; cases hb

def ptrOk (n : Nat) : Sc → Bool
  | .ptr (some (b, _)) => Nat.blt b n
  | .slice (some (b, _)) _ _ => Nat.blt b n
  | .map (some b) => Nat.blt b n
  | .asl b _ _ => Nat.blt b n
  | .aptr b _ => Nat.blt b n
  | .fn _ cs => cs.all fun p => Nat.blt p.1 n
  | _ => true
def below (n : Nat) : Sv → Bool
  | .one c => ptrOk n c
  | .agg l => l.all (ptrOk n)
  | .tup l => l.all fun p => p.2.all (ptrOk n)
  | .undef => true

theorem Sc.den_agree {η : Env} {E E' : Emb} {n : Nat} (h : Agree E E' n) {c : Sc} (hc : ptrOk n c = true) : c.den η E' = c.den η E := by
  cases c with
  | ptr a => cases a with
    | none => rfl
    | some a =>
      obtain ⟨b, o⟩ := a
      simp only [ptrOk] at hc
      simp only [Sc.den, denAddr, h b (Nat.le_of_ble_eq_true hc)]
  | slice a m c => cases a with
    | none => cases c <;> rfl
    | some a =>
      obtain ⟨b, o⟩ := a
      simp only [ptrOk] at hc
      cases c <;> simp only [Sc.den, denAddr, h b (Nat.le_of_ble_eq_true hc)]
  | map r => cases r with
    | none => rfl
    | some b =>
      simp only [ptrOk] at hc
      simp only [Sc.den, h b (Nat.le_of_ble_eq_true hc)]
  | asl b k c =>
    simp only [ptrOk] at hc
    simp only [Sc.den, h b (Nat.le_of_ble_eq_true hc)]
  | aptr b o =>
    simp only [ptrOk] at hc
    simp only [Sc.den, h b (Nat.le_of_ble_eq_true hc)]
  | fn f cs =>
    simp only [ptrOk] at hc
    have : denCaps E' cs = denCaps E cs := by
      induction cs with
      | nil => rfl
      | cons p cs ih =>
        simp only [List.all_cons, Bool.and_eq_true] at hc
        simp only [denCaps, denAddr, h p.1 (Nat.le_of_ble_eq_true hc.1), ih hc.2]
    simp only [Sc.den, this]
  | _ => rfl
theorem denL_agree {η : Env} {E E' : Emb} {n : Nat} (h : Agree E E' n) : ∀ {l : List Sc}, l.all (ptrOk n) = true → denL η E' l = denL η E l
  | [], _ => rfl
  | c :: l, hl => by
    simp only [List.all_cons, Bool.and_eq_true] at hl
    simp only [denL, Sc.den_agree h hl.1, denL_agree h hl.2]
theorem denPart_agree {η : Env} {E E' : Emb} {n : Nat} (h : Agree E E' n) {p : Bool × List Sc} (hp : p.2.all (ptrOk n) = true) : denPart η E' p = denPart η E p := by
  obtain ⟨b, l⟩ := p
  cases b with
  | true => simp only [denPart, denL_agree h hp]
  | false =>
    cases l with
    | nil => rfl
    | cons c l =>
      cases l with
      | nil =>
        simp only [List.all_cons, Bool.and_eq_true] at hp
        simp only [denPart, Sc.den_agree h hp.1]
      | cons d l => rfl
theorem denParts_agree {η : Env} {E E' : Emb} {n : Nat} (h : Agree E E' n) : ∀ {l : List (Bool × List Sc)}, (l.all fun p => p.2.all (ptrOk n)) = true → denParts η E' l = denParts η E l
  | [], _ => rfl
  | p :: l, hl => by
    simp only [List.all_cons, Bool.and_eq_true] at hl
    simp only [denParts, denPart_agree h hl.1, denParts_agree h hl.2]
theorem Sv.den_agree {η : Env} {E E' : Emb} {n : Nat} (h : Agree E E' n) {s : Sv} (hs : below n s = true) : s.den η E' = s.den η E := by
  cases s with
  | one c => exact Sc.den_agree h hs
  | agg l => simp only [Sv.den, denL_agree h hs]
  | tup l => simp only [Sv.den, denParts_agree h hs]
  | undef => rfl

/-! ## Results -/
def resV (C : Cx) (hp : T Blk) (tm : T Sv) : ResultVar → Option Sv
  | .tmp t => tm.get t
  | .cell a t => match tm.get a with
    | some s => loadX C hp t s
    | none => none
def toPart : Sv → Option (Bool × List Sc)
  | .one c => some (false, [c])
  | .agg l => some (true, l)
  | _ => none
def resL (C : Cx) (hp : T Blk) (tm : T Sv) : List ResultVar → Option (List (Bool × List Sc))
  | [] => some []
  | r :: l => match resV C hp tm r, resL C hp tm l with
    | some s, some m => match toPart s with
      | some p => some (p :: m)
      | none => none
    | _, _ => none
def resX (C : Cx) (hp : T Blk) (tm : T Sv) (l : List ResultVar) : Option Sv :=
  match l with
  | [r] => resV C hp tm r
  | l => match resL C hp tm l with
    | some m => some (.tup m)
    | none => none

def resSem (tmps : Array Value) : ResultVar → Sem Value
  | .tmp t => pure (tmps.getD t undef)
  | .cell a t => do loadVar t (← asAddr (tmps.getD a undef))

theorem resV_run {C : Cx} {P : Program} {η : Env} {E : Emb} (hC : C.Ok P η) {hp : T Blk} {nx lo base : Nat} {w : World} (hH : HRel η E hp nx lo base w) {tm : T Sv} {a : Act} (hf : FRel η E tm a) {r : ResultVar} {s : Sv} (h : resV C hp tm r = some s) :
    ∃ v, s.den η E = some v ∧ (resSem a.tmps r).run P w = .ok v w := by
  cases r with
  | tmp t =>
    obtain ⟨v, h1, h2⟩ := hf t s h
    exact ⟨v, h2, by simp [resSem, Array.getD_eq_getD_getElem?, h1]⟩
  | cell ad t =>
    simp only [resV] at h
    split at h
    · rename_i s' hs
      obtain ⟨va, h1, h2⟩ := hf ad s' hs
      obtain ⟨v, h3, h4⟩ := loadX_run hC hH h h2
      refine ⟨v, h3, ?_⟩
      unfold loadX at h
      split at h
      · rename_i b o
        obtain ⟨B, K, _, rfl⟩ := ptr_den h2
        have e : a.tmps.getD ad undef = .pointer (some ⟨B, o, none⟩) := by simp [Array.getD_eq_getD_getElem?, h1]
        simp only [resSem, e, asAddr, Sem.run_bind, Sem.run_pure, Result.andThen_ok]
        simpa [Instr.loadAt, Instr.sureAddr] using h4
      · rename_i b o
        obtain ⟨B, K, _, rfl⟩ := aptr_den h2
        have e : a.tmps.getD ad undef = .pointer (some ⟨B, K + o, none⟩) := by simp [Array.getD_eq_getD_getElem?, h1]
        simp only [resSem, e, asAddr, Sem.run_bind, Sem.run_pure, Result.andThen_ok]
        simpa [Instr.loadAt, Instr.sureAddr] using h4
      · cases h
    · cases h

theorem toPart_den {η : Env} {E : Emb} {s : Sv} {p : Bool × List Sc} {v : Value} (h : toPart s = some p) (hs : s.den η E = some v) : denPart η E p = some v := by
  cases s with
  | one c => cases h; exact hs
  | agg l => cases h; exact hs
  | tup l => cases h
  | undef => cases h

theorem resL_run {C : Cx} {P : Program} {η : Env} {E : Emb} (hC : C.Ok P η) {hp : T Blk} {nx lo base : Nat} {w : World} (hH : HRel η E hp nx lo base w) {tm : T Sv} {a : Act} (hf : FRel η E tm a) : ∀ {l : List ResultVar} {m}, resL C hp tm l = some m →
    ∃ vs, denParts η E m = some vs ∧ vs.length = l.length ∧ (l.mapM (resSem a.tmps)).run P w = .ok vs w
  | [], m, h => by cases h; exact ⟨[], rfl, rfl, by simp⟩
  | r :: l, m, h => by
    simp only [resL] at h
    split at h
    · rename_i s m' hs hm
      split at h
      · rename_i p hp'
        cases h
        obtain ⟨v, h1, h2⟩ := resV_run hC hH hf hs
        obtain ⟨vs, h3, h4, h5⟩ := resL_run hC hH hf hm
        exact ⟨v :: vs, by simp [denParts, toPart_den hp' h1, h3], by simp [h4], by simp [List.mapM_cons, h2, h5]⟩
      · cases h
    · cases h

theorem results_eq (fn : Func) (tmps : Array Value) (P : Program) (w : World) : (results fn tmps).run P w = ((fn.results.toList.mapM (resSem tmps)).run P w).andThen fun vs w' => .ok (if h : vs.length = 1 then vs[0] else .tuple vs.toArray) w' := by
  have e : ∀ f g : ResultVar → Sem Value, (∀ r, f r = g r) → (do let vs ← fn.results.mapM f; pure (if h : vs.size = 1 then vs[0] else .tuple vs) : Sem Value) = (do let vs ← fn.results.mapM g; pure (if h : vs.size = 1 then vs[0] else .tuple vs) : Sem Value) := by
    intro f g h
    rw [funext h]
  refine (congrArg (fun s => Sem.run P s w) (e _ (resSem tmps) (fun r => by cases r <;> rfl))).trans ?_
  rw [Array.mapM_eq_mapM_toList]
  simp only [Sem.run_bind, Sem.run_map]
  cases (fn.results.toList.mapM (resSem tmps)).run P w with
  | ok vs w' => simp
  | halt h w' => rfl

theorem resX_run {C : Cx} {P : Program} {η : Env} {E : Emb} (hC : C.Ok P η) {hp : T Blk} {nx lo base : Nat} {w : World} (hH : HRel η E hp nx lo base w) {tm : T Sv} {a : Act} (hf : FRel η E tm a) {fn : Func} {s : Sv} (h : resX C hp tm fn.results.toList = some s) :
    ∃ v, s.den η E = some v ∧ (results fn a.tmps).run P w = .ok v w := by
  rw [results_eq]
  unfold resX at h
  split at h
  · rename_i r hr
    obtain ⟨v, h1, h2⟩ := resV_run hC hH hf h
    exact ⟨v, h1, by rw [hr]; simp [h2]⟩
  · rename_i hl
    split at h
    · rename_i m hm
      cases h
      obtain ⟨vs, h1, h2, h3⟩ := resL_run hC hH hf hm
      refine ⟨.tuple vs.toArray, by simp [Sv.den, h1], ?_⟩
      rw [h3]
      have : ¬ vs.length = 1 := by
        intro e
        rw [h2] at e
        match hfr : fn.results.toList, e with
        | [r], _ => exact hl r hfr
      simp [this]
    · cases h

/-! ## One operation -/
def putSt (nt : Nat) (dst : Option Tmp) (sv : Sv) (st : St) : Tree St :=
  match dst with
  | none => .leaf st
  | some d => bif Nat.blt d nt then .leaf { st with tm := st.tm.set d (some sv) } else .fail

theorem putSt_run {η : Env} {E : Emb} {nt base : Nat} {w0 : World} {st st' : St} {a : Act} {w : World} {dst : Option Tmp} {sv : Sv} {v : Value} (h : (putSt nt dst sv st).at_ η = some st') (hr : SRel η E nt base w0 st a w) (hv : sv.den η E = some v) :
    SRel η E nt base w0 st' (a.put dst v) w ∧ st'.nx = st.nx ∧ st'.lo = st.lo ∧ st'.pc = st.pc ∧ st'.hp = st.hp := by
  unfold putSt at h
  split at h
  · cases h; exact ⟨⟨hr.fr, hr.sz, hr.nt, hr.df, hr.hr, hr.bl, hr.lo, hr.pc⟩, rfl, rfl, rfl, rfl⟩
  · rename_i d
    cases hd : Nat.blt d nt with
    | false => rw [hd] at h; cases h
    | true =>
      rw [hd] at h; cases h
      have hd := Nat.le_of_ble_eq_true hd
      exact ⟨⟨hr.fr.put (by have := hr.nt; omega) (by rw [hr.sz]; exact hd) hv, by simp [Act.put, hr.sz], hr.nt, hr.df, hr.hr, hr.bl, hr.lo, hr.pc⟩, rfl, rfl, rfl, rfl⟩

/-- What an executor of calls hands back is what the call hands back. -/
def CallOk (P : Program) (η : Env) (ih : FI → List Sv → St → Tree (Sv × St)) : Prop :=
  ∀ fi args st r, (ih fi args st).at_ η = some r → ∀ f, FI.Ok P f fi → st.pc.holds η → st.lo ≤ st.nx →
    ∀ E base w0 w vs, HRel η E st.hp st.nx st.lo base w → Below base w0 w → denArgs η E args = some vs →
      Calls P f vs.toArray w fun e w' => ∃ v E', e = .returned v ∧ r.1.den η E' = some v ∧ Agree E E' st.nx ∧ HRel η E' r.2.hp r.2.nx st.lo base w' ∧ Below base w0 w' ∧ r.2.pc.holds η ∧ st.nx ≤ r.2.nx

def callStep (C : Cx) (ih : FI → List Sv → St → Tree (Sv × St)) (f : FuncId) (args : List Sv) (st : St) : Tree (Sv × St) :=
  match C.sm.get f with
  | some g => (g args st.pc).bind fun r => .leaf (r.1, { st with pc := r.2 })
  | none => match C.hs.get f with
    | some g => (g st.hp args st.pc).bind fun r => .leaf (r.1, { st with pc := r.2 })
    | none => match C.ft.get f with
      | some fi => match fi.quiet with
        | true => (ih fi args { st with lo := st.nx }).bind fun r => bif below st.nx r.1 then .leaf (r.1, { st with pc := r.2.pc }) else .fail
        | false => (ih fi args st).bind fun r => .leaf (r.1, { st with hp := r.2.hp, nx := r.2.nx, pc := r.2.pc })
      | none => .fail

theorem run_callFunc {P : Program} {f : FuncId} {fi : FI} (h : FI.Ok P f fi) (args : Array Value) (w : World) : (callFunc f args).run P w = .ok (.enter f args) w := by
  obtain ⟨fn, h1, h2, _, _, h5⟩ := h.fn
  have h5' : ¬ fn.name = "runtime.NumGoroutine" := by simpa using h5
  simp [callFunc, h1, h5', h2]

/-- A call, met at an operation. -/
theorem callStep_run {C : Cx} {P : Program} {η : Env} (hC : C.Ok P η) {ih : FI → List Sv → St → Tree (Sv × St)} (hih : CallOk P η ih) {f : FuncId} {args : List Sv} {st : St} {r : Sv × St} (hpc : st.pc.holds η) (hlo : st.lo ≤ st.nx)
    (h : (callStep C ih f args st).at_ η = some r) :
    r.2.lo = st.lo ∧ r.2.tm = st.tm ∧ ∀ E base w0 w vs, HRel η E st.hp st.nx st.lo base w → Below base w0 w → denArgs η E args = some vs →
      (∃ v, r.1.den η E = some v ∧ (callFunc f vs.toArray).run P w = .ok (.value v) w ∧ r.2.hp = st.hp ∧ r.2.nx = st.nx ∧ r.2.pc.holds η) ∨
      ((callFunc f vs.toArray).run P w = .ok (.enter f vs.toArray) w ∧ Calls P f vs.toArray w fun e w' => ∃ v E', e = .returned v ∧ r.1.den η E' = some v ∧ Agree E E' st.nx ∧ HRel η E' r.2.hp r.2.nx st.lo base w' ∧ Below base w0 w' ∧ r.2.pc.holds η ∧ st.nx ≤ r.2.nx) := by
  unfold callStep at h
  split at h
  · rename_i g hg
    obtain ⟨⟨sv, pc⟩, h1, h2⟩ := Tree.at_bind h
    cases h2
    -- a summary
    obtain ⟨hp1, hg1⟩ := hC.sm f g hg args st.pc sv pc h1 hpc
    refine ⟨rfl, rfl, fun E base w0 w vs hH hB hv => ?_⟩
    obtain ⟨v, e1, e2⟩ := hg1 E vs w hv
    rcases e2 with e2 | ⟨e2, e3⟩
    · exact .inl ⟨v, e1, e2, rfl, rfl, hp1⟩
    · refine .inr ⟨e2, e3.mono ?_⟩
      rintro e w' ⟨rfl, hb⟩
      exact ⟨v, E, rfl, e1, Agree.refl _ _, hH.below hb, hB.trans (hb.mono hH.bot), hp1, Nat.le_refl _⟩
  · split at h
    · rename_i g hg
      obtain ⟨⟨sv, pc⟩, h1, h2⟩ := Tree.at_bind h
      cases h2
      obtain ⟨hp1, hg1⟩ := hC.hs f g hg st.hp args st.pc sv pc h1 hpc
      refine ⟨rfl, rfl, fun E base w0 w vs hH hB hv => ?_⟩
      obtain ⟨v, e1, e2⟩ := hg1 E vs _ _ _ w hH hv
      rcases e2 with e2 | ⟨e2, e3⟩
      · exact .inl ⟨v, e1, e2, rfl, rfl, hp1⟩
      · refine .inr ⟨e2, e3.mono ?_⟩
        rintro e w' ⟨rfl, hb⟩
        exact ⟨v, E, rfl, e1, Agree.refl _ _, hH.below hb, hB.trans (hb.mono hH.bot), hp1, Nat.le_refl _⟩
    split at h
    · rename_i fi hfi
      have hF := hC.ft f fi hfi
      split at h
      · obtain ⟨r1, h1, h2⟩ := Tree.at_bind h
        cases hb : below st.nx r1.1 with
        | false => rw [hb] at h2; cases h2
        | true =>
          rw [hb] at h2; cases h2
          have g3 := hih fi args { st with lo := st.nx } r1 h1 f hF hpc (Nat.le_refl _)
          refine ⟨rfl, rfl, fun E base w0 w vs hH hB hv => .inr ⟨run_callFunc hF _ w, ?_⟩⟩
          have hH' : HRel η E st.hp st.nx st.nx w.heap.size w := ⟨hH.dom, hH.cell, hH.inj, (fun i B K hi hE => by rw [hH.free i hi] at hE; cases hE), hH.top, Nat.le_refl _, hH.free, hH.lim⟩
          refine (g3 E w.heap.size w w vs hH' (Below.refl _ _) hv).mono ?_
          rintro e w' ⟨v, E', rfl, e1, e2, _, e4, e5, _⟩
          refine ⟨v, E, rfl, ?_, Agree.refl _ _, hH.below e4, hB.trans (e4.mono hH.bot), e5, Nat.le_refl _⟩
          rw [← Sv.den_agree e2 hb]; exact e1
      · obtain ⟨r1, h1, h2⟩ := Tree.at_bind h
        cases h2
        have g3 := hih fi args st r1 h1 f hF hpc hlo
        exact ⟨rfl, rfl, fun E base w0 w vs hH hB hv => .inr ⟨run_callFunc hF _ w, g3 E base w0 w vs hH hB hv⟩⟩
    · cases h

end
end Go.Ex


namespace Go.Ex
open Go Go.RowKit
noncomputable section

def capS : List (Nat × Nat) → List Sv
  | [] => []
  | a :: l => .one (.ptr (some a)) :: capS l
theorem capS_den {η : Env} {E : Emb} : ∀ {cs : List (Nat × Nat)} {l : List Value}, denCaps E cs = some l → denArgs η E (capS cs) = some l
  | [], l, h => by cases h; rfl
  | a :: cs, l, h => by
    simp only [denCaps] at h
    split at h
    · rename_i x r h1 h2
      cases h
      simp [capS, denArgs, Sv.den, Sc.den, h1, capS_den h2]
    · cases h
theorem denArgs_append {η : Env} {E : Emb} : ∀ {l m : List Sv} {vs us : List Value}, denArgs η E l = some vs → denArgs η E m = some us → denArgs η E (l ++ m) = some (vs ++ us)
  | [], m, vs, us, h, h' => by cases h; exact h'
  | c :: l, m, vs, us, h, h' => by
    obtain ⟨v, vs', h1, h2, rfl⟩ := denArgs_cons h
    simp [denArgs, h1, denArgs_append h2 h']

def runOp (C : Cx) (ih : FI → List Sv → St → Tree (Sv × St)) (nt : Nat) (o : Oper) (st : St) : Tree St :=
  match o.op with
  | .store t x v => match storeX C st.tm st.hp st.lo t x v with
    | some hp => putSt nt o.dst .undef { st with hp := hp }
    | none => .fail
  | .call c => match c.callee with
    | .value fx => match evX st.tm fx, evL st.tm c.args.toList with
      | some (.one (.fn f caps)), some args => (callStep C ih f (args ++ capS caps) st).bind fun r => putSt nt o.dst r.1 r.2
      | _, _ => .fail
    | .builtin .append => match Nat.ble (st.nx + 1) 65000, appendX C st.tm st.hp st.nx st.lo c.argTypes.toList c.args.toList with
      | true, some r => putSt nt o.dst r.sv { st with hp := r.hp, nx := st.nx + 1 }
      | _, _ => .fail
    | _ => (qop C st.hp st.tm st.pc o.op).bind fun r => putSt nt o.dst r.1 { st with pc := r.2 }
  | op => match aop C st.tm op with
    | some r => match Nat.ble (st.nx + 1) 65000 with
      | true => putSt nt o.dst (r.sv st.nx) { st with hp := st.hp.set st.nx (some r.blk), nx := st.nx + 1 }
      | false => .fail
    | none => (qop C st.hp st.tm st.pc op).bind fun r => putSt nt o.dst r.1 { st with pc := r.2 }

/-- What is shown of a step from 'st' to 'st'' at a real frame and world: any continuation that takes every outcome is met. -/
def Steps1 (η : Env) (nt : Nat) (st st' : St) (E : Emb) (base : Nat) (w0 : World) (X : (Act → World → Prop) → Prop) : Prop :=
  ∀ K : Act → World → Prop, (∀ E' a' w', Agree E E' st.nx → st.nx ≤ st'.nx → st'.lo = st.lo → SRel η E' nt base w0 st' a' w' → K a' w') → X K

theorem wp_value {P : Program} {o : Oper} {a : Act} {w w' : World} {v : Value} {K : Act → World → Prop} {Q : Exit → Act → World → Prop} (h : (execOp a.eval o).run P w = .ok (.value v) w') (hk : K (a.put o.dst v) w') : o.wp P a w K Q := by
  unfold Oper.wp; rw [h]; exact hk
theorem wp_skip' {P : Program} {o : Oper} {a : Act} {w w' : World} {K : Act → World → Prop} {Q : Exit → Act → World → Prop} (h : (execOp a.eval o).run P w = .ok .skip w') (hk : K (a.put o.dst undef) w') : o.wp P a w K Q := by
  unfold Oper.wp; rw [h]; exact hk

theorem runQ_run {C : Cx} {P : Program} {η : Env} (hC : C.Ok P η) {nt : Nat} {o : Oper} {st st' : St} (h : ((qop C st.hp st.tm st.pc o.op).bind fun r => putSt nt o.dst r.1 { st with pc := r.2 }).at_ η = some st')
    {E : Emb} {base : Nat} {w0 : World} {a : Act} {w : World} (hS : SRel η E nt base w0 st a w) (Q : Exit → Act → World → Prop) : Steps1 η nt st st' E base w0 fun K => o.wp P a w K Q := by
  obtain ⟨⟨sv, pc⟩, h1, h2⟩ := Tree.at_bind h
  obtain ⟨g1, v, g2, g3⟩ := qop_run hC hS.hr hS.pc (fun x _ => hS.fr.orel x) h1
  have hS' : SRel η E nt base w0 { st with pc := pc } a w := ⟨hS.fr, hS.sz, hS.nt, hS.df, hS.hr, hS.bl, hS.lo, g1⟩
  obtain ⟨k1, k2, k3, k4, _⟩ := putSt_run h2 hS' g2
  exact fun K hK => wp_value g3 (hK E _ _ (Agree.refl _ _) (by rw [k2]; exact Nat.le_refl _) k3 k1)

theorem runOp_run {C : Cx} {P : Program} {η : Env} (hC : C.Ok P η) {ih : FI → List Sv → St → Tree (Sv × St)} (hih : CallOk P η ih) {nt : Nat} {o : Oper} {st st' : St} (h : (runOp C ih nt o st).at_ η = some st')
    {E : Emb} {base : Nat} {w0 : World} {a : Act} {w : World} (hS : SRel η E nt base w0 st a w) (Q : Exit → Act → World → Prop) : Steps1 η nt st st' E base w0 fun K => o.wp P a w K Q := by
  unfold runOp at h
  split at h
  · rename_i t x v ho
    split at h
    · rename_i hp hhp
      obtain ⟨w', r1, r2, r3⟩ := storeX_run hC hS.hr hS.bl ho (fun x _ => hS.fr.orel x) hhp
      have hS' : SRel η E nt base w0 { st with hp := hp } a w' := ⟨hS.fr, hS.sz, hS.nt, hS.df, r2, r3, hS.lo, hS.pc⟩
      obtain ⟨k1, k2, k3, k4, _⟩ := putSt_run (v := undef) h hS' rfl
      exact fun K hK => wp_skip' r1 (hK E _ _ (Agree.refl _ _) (by rw [k2]; exact Nat.le_refl _) k3 k1)
    · cases h
  · rename_i c ho
    split at h
    · rename_i fx hcal
      split at h
      · rename_i f caps args hf hargs
        obtain ⟨r, h1, h2⟩ := Tree.at_bind h
        obtain ⟨g3, g4, g5⟩ := callStep_run hC hih hS.pc hS.lo h1
        -- the arguments
        have ef := hS.fr.orel fx _ hf
        simp only [Sv.den, Sc.den, Option.map_eq_some_iff] at ef
        obtain ⟨l, hl, ef⟩ := ef
        have ea := evL_den (fun x _ => hS.fr.orel x) hargs
        have eall := denArgs_append ea (capS_den (η := η) hl)
        have hexec : (execOp a.eval o).run P w = (callFunc f (List.map a.eval c.args.toList ++ l).toArray).run P w := by
          have e1 : c.args.map a.eval = (List.map a.eval c.args.toList).toArray := by rw [← Array.toList_map, Array.toArray_toList]
          simp only [execOp, ho, resolve, hcal, ← ef, Deferred.ofValue, Sem.run_bind, Sem.run_pure, Result.andThen_ok, invoke, e1]
          simp
        have hfin : ∀ E' v w', Agree E E' st.nx → r.1.den η E' = some v → HRel η E' r.2.hp r.2.nx st.lo base w' → Below base w0 w' → r.2.pc.holds η → st.nx ≤ r.2.nx → st.nx ≤ st'.nx ∧ st'.lo = st.lo ∧ SRel η E' nt base w0 st' (a.put o.dst v) w' := by
          intro E' v w' hA hv hH hB hp hn
          have hle := hA.le hS.hr
          have hS' : SRel η E' nt base w0 r.2 a w' := ⟨by rw [g4]; exact hS.fr.mono hle, hS.sz, hS.nt, hS.df, by rw [g3]; exact hH, hB, by rw [g3]; have := hS.lo; omega, hp⟩
          obtain ⟨k1, k2, k3, k4, _⟩ := putSt_run h2 hS' hv
          exact ⟨by omega, k3.trans g3, k1⟩
        intro K hK
        rcases g5 E base w0 w _ hS.hr hS.bl eall with ⟨v, e1, e2, e3, e4, e5⟩ | ⟨e1, e2⟩
        · obtain ⟨q1, q2, q3⟩ := hfin E v w (Agree.refl _ _) e1 (by rw [e3, e4]; exact hS.hr) hS.bl e5 (by omega)
          exact wp_value (hexec.trans e2) (hK E _ _ (Agree.refl _ _) q1 q2 q3)
        · unfold Oper.wp
          rw [hexec, e1]
          refine e2.mono ?_
          rintro e w' ⟨v, E', rfl, q1, q2, q3, q4, q5, q6⟩
          obtain ⟨p1, p2, p3⟩ := hfin E' v w' q2 q1 q3 q4 q5 q6
          exact hK E' _ _ q2 p1 p2 p3
      · cases h
    · rename_i hcal
      split at h
      · rename_i r hnx hr
        have hnx := Nat.le_of_ble_eq_true hnx
        obtain ⟨w', v, E', r1, r2, r3, r4, r5, r6⟩ := appendX_run hC hS.hr hS.bl hS.lo ho hcal (fun x _ => hS.fr.orel x) hnx hr
        have hS' : SRel η E' nt base w0 { st with hp := r.hp, nx := st.nx + 1 } a w' := ⟨hS.fr.mono r3, hS.sz, hS.nt, hS.df, r4, r6, Nat.le_succ_of_le hS.lo, hS.pc⟩
        obtain ⟨k1, k2, k3, k4, _⟩ := putSt_run h hS' r5
        exact fun K hK => wp_value r1 (hK E' _ _ r2 (by rw [k2]; exact Nat.le_succ _) k3 k1)
      · cases h
    · exact runQ_run hC h hS Q
  · split at h
    · rename_i r hr
      split at h
      · rename_i hnx
        have hnx := Nat.le_of_ble_eq_true hnx
        obtain ⟨obj, v, r1, r2⟩ := aop_run hC (w := w) (fun x _ => hS.fr.orel x) hr
        obtain ⟨r3, r4⟩ := r2 st.nx (hS.hr.free _ (Nat.le_refl _))
        have hH := hS.hr.alloc (o := obj) (m := st.nx + 1) (hS.hr.free _ (Nat.le_refl _)) (Nat.lt_succ_self _) (Nat.le_succ _) hnx (fun i hi => hS.hr.free i (by omega)) r3
        have hS' : SRel η (E.set st.nx (w.heap.size, r.K)) nt base w0 { st with hp := st.hp.set st.nx (some r.blk), nx := st.nx + 1 } a (w.alloc obj) :=
          ⟨hS.fr.mono (Emb.le_set (hS.hr.free _ (Nat.le_refl _))), hS.sz, hS.nt, hS.df, hH, hS.bl.alloc hS.hr.bot _, Nat.le_succ_of_le hS.lo, hS.pc⟩
        obtain ⟨k1, k2, k3, k4, _⟩ := putSt_run h hS' r4
        exact fun K hK => wp_value r1 (hK _ _ _ (fun i hi => Emb.set_ne _ _ (by omega)) (by rw [k2]; exact Nat.le_succ _) k3 k1)
      · cases h
    · exact runQ_run hC h hS Q

/-! ## Guards -/
def gslot (ops : List Oper) (j : Nat) : Option Tmp :=
  match nth ops j with
  | some o => o.dst
  | none => none

def opStep (C : Cx) (ih : FI → List Sv → St → Tree (Sv × St)) (nt : Nat) (ops : List Oper) (o : Oper) (st : St) : Tree St :=
  match o.guard with
  | none => runOp C ih nt o st
  | some (j, want) => match gslot ops j with
    | some d => match st.tm.get d with
      | some (.one (.bool bx)) => branch C.D st.pc bx fun b pc => match b == want with
        | true => runOp C ih nt o { st with pc := pc }
        | false => putSt nt o.dst .undef { st with pc := pc }
      | some .undef => putSt nt o.dst .undef st
      | _ => .fail
    | none => .fail

/-- A guard that was itself passed by: its operation is passed by. -/
theorem wanted_undef {ops : Array Oper} {o : Oper} {j : Nat} {want : Bool} {d : Tmp} {tmps : Array Value} (hg : o.guard = some (j, want)) (hd : gslot ops.toList j = some d) (hv : tmps[d]? = some undef) : Region.wanted o (yielded ops tmps) = false := by
  have hy : yielded ops tmps j = none := by
    unfold gslot at hd
    rw [nth_eq, Array.getElem?_toList] at hd
    unfold yielded
    cases hoj : ops[j]? with
    | none => rw [hoj] at hd; cases hd
    | some oj =>
      rw [hoj] at hd
      simp only at hd
      simp only [Option.bind_some, hd, hv]
      rfl
  simp only [Region.wanted, hg, hy]
  rfl

theorem SRel.of_pc {η : Env} {E : Emb} {nt base : Nat} {w0 : World} {st : St} {a : Act} {w : World} (h : SRel η E nt base w0 st a w) {pc : PC} (hp : pc.holds η) : SRel η E nt base w0 { st with pc := pc } a w := ⟨h.fr, h.sz, h.nt, h.df, h.hr, h.bl, h.lo, hp⟩

theorem opStep_run {C : Cx} {P : Program} {η : Env} (hC : C.Ok P η) {ih : FI → List Sv → St → Tree (Sv × St)} (hih : CallOk P η ih) {nt : Nat} {ops : Array Oper} {i : Nat} {o : Oper} {st st' : St} (ho : ops[i]? = some o) (h : (opStep C ih nt ops.toList o st).at_ η = some st')
    {E : Emb} {base : Nat} {w0 : World} {a : Act} {w : World} (hS : SRel η E nt base w0 st a w) (Q : Exit → Act → World → Prop) : Steps1 η nt st st' E base w0 fun K => wpOp P ops Q i K a w := by
  unfold opStep at h
  split at h
  · rename_i hg
    have h4 := runOp_run hC hih h hS Q
    intro K hK
    unfold wpOp
    simp only [ho, Region.wanted, hg, if_true]
    exact .inl (h4 K hK)
  · rename_i j want hg
    split at h
    · rename_i d hd
      split at h
      · rename_i bx hb
        obtain ⟨pc1, hp1, h1⟩ := at_branch hC.D hS.pc h
        obtain ⟨v, hv1, hv2⟩ := hS.fr d _ hb
        simp only [Sv.den, Sc.den, Option.some.injEq] at hv2
        subst hv2
        have hy : yielded ops a.tmps j = some (bx.den η) := by
          unfold gslot at hd
          rw [nth_eq, Array.getElem?_toList] at hd
          unfold yielded
          cases hoj : ops[j]? with
          | none => rw [hoj] at hd; cases hd
          | some oj =>
            rw [hoj] at hd
            simp only at hd
            simp [hd, hv1]
        have hwant : Region.wanted o (yielded ops a.tmps) = (bx.den η == want) := by
          simp only [Region.wanted, hg, hy]; rfl
        split at h1
        · rename_i he
          have k4 := runOp_run hC hih h1 (hS.of_pc hp1) Q
          intro K hK
          unfold wpOp
          simp only [ho, hwant, he, if_true]
          exact .inl (k4 K hK)
        · rename_i he
          obtain ⟨k1, k2, k3, k4, _⟩ := putSt_run (v := undef) h1 (hS.of_pc hp1) rfl
          intro K hK
          unfold wpOp
          simp only [ho, hwant, he, Bool.false_eq_true, if_false]
          exact hK E _ _ (Agree.refl _ _) (by rw [k2]; exact Nat.le_refl _) k3 k1
      · rename_i hb
        obtain ⟨v, hv1, hv2⟩ := hS.fr d _ hb
        simp only [Sv.den, Option.some.injEq] at hv2
        subst hv2
        have hwant : Region.wanted o (yielded ops a.tmps) = false := wanted_undef hg hd hv1
        obtain ⟨k1, k2, k3, k4, _⟩ := putSt_run (v := undef) h hS rfl
        intro K hK
        unfold wpOp
        simp only [ho, hwant, Bool.false_eq_true, if_false]
        exact hK E _ _ (Agree.refl _ _) (by rw [k2]; exact Nat.le_refl _) k3 k1
      · cases h
    · cases h

def seqOps (C : Cx) (ih : FI → List Sv → St → Tree (Sv × St)) (nt : Nat) (ops : List Oper) : List Oper → St → Tree St
  | [], st => .leaf st
  | o :: l, st => (opStep C ih nt ops o st).bind fun st => seqOps C ih nt ops l st

theorem seqOps_run {C : Cx} {P : Program} {η : Env} (hC : C.Ok P η) {ih : FI → List Sv → St → Tree (Sv × St)} (hih : CallOk P η ih) {nt : Nat} {ops : Array Oper} (Q : Exit → Act → World → Prop) : ∀ (l : List Oper) (k : Nat) (st st' : St), (∀ j, l[j]? = ops[k + j]?) →
    (seqOps C ih nt ops.toList l st).at_ η = some st' → ∀ (E : Emb) (base : Nat) (w0 : World) (a : Act) (w : World), SRel η E nt base w0 st a w →
    (∀ E' a' w', Agree E E' st.nx → st.nx ≤ st'.nx → st'.lo = st.lo → SRel η E' nt base w0 st' a' w' → Q .normal a' w') → wpOps P ops Q (List.range' k l.length) a w
  | [], k, st, st', _, h, E, base, w0, a, w, hS, hK => by
    cases h
    simp only [List.length_nil, List.range'_zero, wpOps]
    exact hK E a w (Agree.refl _ _) (Nat.le_refl _) rfl hS
  | o :: l, k, st, st', hl, h, E, base, w0, a, w, hS, hK => by
    obtain ⟨st1, h1, h2⟩ := Tree.at_bind h
    have ho : ops[k]? = some o := by have := hl 0; simpa using this.symm
    have g4 := opStep_run hC hih ho h1 hS Q
    have hl' : ∀ j, l[j]? = ops[k + 1 + j]? := fun j => by have := hl (j + 1); simpa [Nat.add_assoc, Nat.add_comm 1 j] using this
    simp only [List.length_cons, List.range'_succ]
    rw [wpOps_cons]
    refine g4 _ (fun E' a' w' hA hn hlo hS1 => ?_)
    exact seqOps_run hC hih Q l (k + 1) st1 st' hl' h2 E' base w0 a' w' hS1 (fun E'' a'' w'' hA' hn' hlo' hS' => hK E'' a'' w'' (hA.trans hA' hn) (Nat.le_trans hn hn') (hlo'.trans hlo) hS')

end
end Go.Ex


namespace Go.Ex
open Go Go.RowKit
noncomputable section

inductive Xt where
  | normal
  | exit (id : Nat)
  | ret
def Xt.den : Xt → Exit
  | .normal => .normal
  | .exit id => .exit id
  | .ret => .ret

def setArgs : Nat → List Sv → T Sv → T Sv
  | _, [], t => t
  | i, s :: l, t => setArgs (i + 1) l (t.set i (some s))

/-- How a region that draws its order is carried out. -/
abbrev Drawer := (FI → List Sv → St → Tree (Sv × St)) → Nat → List Oper → St → Tree St

def exec (C : Cx) (dr : Drawer) : Nat → Nat → Code → St → Tree (Xt × St)
  | 0, _, _, _ => .fail
  | n + 1, nt, c, st =>
    let call : FI → List Sv → St → Tree (Sv × St) := fun fi args st =>
      bif Nat.ble args.length fi.ntmps && Nat.ble fi.ntmps 60000 then
        (exec C dr n fi.ntmps fi.body { st with tm := setArgs 0 args .nil }).bind fun r => match r.1 with
          | .exit _ => .fail
          | _ => match resX C r.2.hp r.2.tm fi.res with
            | some s => .leaf (s, r.2)
            | none => .fail
      else .fail
    match c with
    | .skip => .leaf (.normal, st)
    | .ret => .leaf (.ret, st)
    | .exit id => .leaf (.exit id, st)
    | .seq a b => (exec C dr n nt a st).bind fun r => match r.1 with
      | .normal => exec C dr n nt b r.2
      | _ => .leaf r
    | .cond c a b => match evX st.tm c with
      | some (.one (.bool bx)) => branch C.D st.pc bx fun t pc => exec C dr n nt (bif t then a else b) { st with pc := pc }
      | _ => .fail
    | .block id c => (exec C dr n nt c st).bind fun r => match r.1 with
      | .exit i => bif Nat.beq i id then .leaf (.normal, r.2) else .leaf r
      | _ => .leaf r
    | .loop c => (exec C dr n nt c st).bind fun r => match r.1 with
      | .normal => exec C dr n nt (.loop c) r.2
      | _ => .leaf r
    | .region _ ops false => (seqOps C call nt ops.toList ops.toList st).bind fun st => .leaf (.normal, st)
    | .region _ ops true => (dr call nt ops.toList st).bind fun st => .leaf (.normal, st)
    | _ => .fail

/-- The executor of calls of a given depth. -/
def callE (C : Cx) (dr : Drawer) (n : Nat) : FI → List Sv → St → Tree (Sv × St) := fun fi args st =>
  bif Nat.ble args.length fi.ntmps && Nat.ble fi.ntmps 60000 then
    (exec C dr n fi.ntmps fi.body { st with tm := setArgs 0 args .nil }).bind fun r => match r.1 with
      | .exit _ => .fail
      | _ => match resX C r.2.hp r.2.tm fi.res with
        | some s => .leaf (s, r.2)
        | none => .fail
  else .fail

end
end Go.Ex


namespace Go.Ex
open Go Go.RowKit
noncomputable section

/-- A region that draws its order, carried out by 'dr'. -/
def DrawOk (P : Program) (η : Env) (dr : Drawer) : Prop :=
  ∀ ih, CallOk P η ih → ∀ (nt : Nat) (ops : Array Oper) (st st' : St), (dr ih nt ops.toList st).at_ η = some st' →
    ∀ E base w0 a w, SRel η E nt base w0 st a w → ∀ (Q : Exit → Act → World → Prop) (id : Nat),
      (∀ E' a' w', Agree E E' st.nx → st.nx ≤ st'.nx → st'.lo = st.lo → SRel η E' nt base w0 st' a' w' → Q .normal a' w') → (Code.region id ops true).wp P Q a w

/-- What is asked of the place where a code comes to. -/
def Lands (η : Env) (nt base : Nat) (w0 : World) (E : Emb) (st : St) (r : Xt × St) (Q : Exit → Act → World → Prop) : Prop :=
  ∀ E' a' w', Agree E E' st.nx → st.nx ≤ r.2.nx → r.2.lo = st.lo → SRel η E' nt base w0 r.2 a' w' → Q r.1.den a' w'

theorem Lands.trans {η : Env} {nt base : Nat} {w0 : World} {E E' : Emb} {st st' : St} {r : Xt × St} {Q : Exit → Act → World → Prop} (h : Lands η nt base w0 E st r Q) (hA : Agree E E' st.nx) (hn : st.nx ≤ st'.nx) (hlo : st'.lo = st.lo) :
    Lands η nt base w0 E' st' r Q := fun E'' a' w' hA' hn' hlo' hS => h E'' a' w' (hA.trans hA' hn) (Nat.le_trans hn hn') (hlo'.trans hlo) hS

theorem setArgs_rel {η : Env} {E : Emb} {a : Act} : ∀ {l : List Sv} {vs : List Value} {i : Nat} {t : T Sv}, denArgs η E l = some vs → FRel η E t a → i + l.length < 65535 → (∀ j, j < l.length → a.tmps[i + j]? = vs[j]?) → FRel η E (setArgs i l t) a
  | [], vs, i, t, _, h, _, _ => h
  | s :: l, vs, i, t, hv, h, hi, ha => by
    obtain ⟨v, us, h1, h2, rfl⟩ := denArgs_cons hv
    show FRel η E (setArgs (i + 1) l (t.set i (some s))) a
    refine setArgs_rel (l := l) h2 ?_ (by simp at hi; omega) (fun j hj => by have := ha (j + 1) (by simp; omega); simpa [Nat.add_assoc, Nat.add_comm 1 j] using this)
    intro x sv hx
    by_cases hix : i = x
    · subst hix
      rw [T.get_set_same _ _ _ (by simp at hi; omega)] at hx
      cases hx
      exact ⟨v, by simpa using ha 0 (by simp), h1⟩
    · rw [T.get_set_ne _ _ _ _ hix] at hx
      exact h x sv hx

theorem denArgs_length {η : Env} {E : Emb} : ∀ {l : List Sv} {vs}, denArgs η E l = some vs → vs.length = l.length
  | [], vs, h => by cases h; rfl
  | s :: l, vs, h => by
    obtain ⟨v, us, h1, h2, rfl⟩ := denArgs_cons h
    simp [denArgs_length h2]

/-- What is shown of all codes for a given fuel. -/
def ExecOk (C : Cx) (dr : Drawer) (P : Program) (η : Env) (n : Nat) : Prop :=
  ∀ nt c st r, (exec C dr n nt c st).at_ η = some r → ∀ E base w0 a w, SRel η E nt base w0 st a w → ∀ Q, Lands η nt base w0 E st r Q →
    c.wp P Q a w ∧ ∀ c', c = .loop c' → Code.rounds P c' Q n a w

theorem callE_ok {C : Cx} {dr : Drawer} {P : Program} {η : Env} (hC : C.Ok P η) {n : Nat} (hX : ExecOk C dr P η n) : CallOk P η (callE C dr n) := by
  intro fi args st r h f hF hpc hlo E base w0 w vs hH hB hv
  unfold callE at h
  cases hb : (Nat.ble args.length fi.ntmps && Nat.ble fi.ntmps 60000) with
  | false => rw [hb] at h; cases h
  | true =>
    rw [hb] at h
    simp only [Bool.and_eq_true] at hb
    have hb1 := Nat.le_of_ble_eq_true hb.1
    have hb2 := Nat.le_of_ble_eq_true hb.2
    obtain ⟨r1, h1, h2⟩ := Tree.at_bind h
    obtain ⟨fn, f1, f2, f3, f4, _⟩ := hF.fn
    have hlen := denArgs_length hv
    refine calls_of_wp f1 f2 ?_
    have hfr : FRel η E (setArgs 0 args .nil) { tmps := vs.toArray ++ Array.replicate (fn.ntmps - vs.toArray.size) undef, defers := [] } := by
      refine setArgs_rel hv (fun t sv ht => by simp [T.get_nil] at ht) (by omega) (fun j hj => ?_)
      have : j < vs.length := by omega
      simp [Array.getElem?_append, this]
    have hS : SRel η E fi.ntmps base w0 { st with tm := setArgs 0 args .nil } { tmps := vs.toArray ++ Array.replicate (fn.ntmps - vs.toArray.size) undef, defers := [] } w :=
      ⟨hfr, by simp [f3, hlen]; omega, hb2, rfl, hH, hB, hlo, hpc⟩
    refine (hX _ _ _ _ h1 E base w0 _ w hS _ ?_).1
    intro E' a' w' hA hn hlo' hS'
    obtain ⟨xt, st'⟩ := r1
    have fin : ∀ s, resX C st'.hp st'.tm fi.res = some s → r = (s, st') → a'.defers = [] ∧ ∃ v, (results fn a'.tmps).run P w' = .ok v w' ∧ ∃ v' E', Ending.returned v = .returned v' ∧ r.1.den η E' = some v' ∧ Agree E E' st.nx ∧ HRel η E' r.2.hp r.2.nx st.lo base w' ∧ Below base w0 w' ∧ r.2.pc.holds η ∧ st.nx ≤ r.2.nx := by
      rintro s hs rfl
      obtain ⟨v, e1, e2⟩ := resX_run hC hS'.hr hS'.fr (fn := fn) (by rw [f4]; exact hs)
      have hlo'' : st'.lo = st.lo := hlo'
      exact ⟨hS'.df, v, e2, v, E', rfl, e1, hA, by rw [← hlo'']; exact hS'.hr, hS'.bl, hS'.pc, hn⟩
    cases xt with
    | exit i => cases h2
    | normal =>
      simp only at h2
      split at h2
      · rename_i s hs; cases h2; exact fin s hs rfl
      · cases h2
    | ret =>
      simp only at h2
      split at h2
      · rename_i s hs; cases h2; exact fin s hs rfl
      · cases h2

theorem Exit.then_of {N : Act → World → Prop} {Q : Exit → Act → World → Prop} {x : Xt} {a : Act} {w : World} (hn : x = .normal → N a w) (ho : x ≠ .normal → Q x.den a w) : Exit.then N Q x.den a w := by
  cases x with
  | normal => exact hn rfl
  | exit i => exact ho (by simp)
  | ret => exact ho (by simp)

theorem exec_ok {C : Cx} {dr : Drawer} {P : Program} {η : Env} (hC : C.Ok P η) (hD : DrawOk P η dr) : ∀ n, ExecOk C dr P η n
  | 0 => fun nt c st r h => by cases h
  | n + 1 => by
    have ih := exec_ok hC hD n
    have hcall : CallOk P η (callE C dr n) := callE_ok hC ih
    intro nt c st r h E base w0 a w hS Q hQ
    unfold exec at h
    split at h
    · cases h; exact ⟨wp_skip (hQ E a w (Agree.refl _ _) (Nat.le_refl _) rfl hS), fun _ e => by cases e⟩
    · cases h; exact ⟨wp_ret (hQ E a w (Agree.refl _ _) (Nat.le_refl _) rfl hS), fun _ e => by cases e⟩
    · cases h; exact ⟨wp_exit (hQ E a w (Agree.refl _ _) (Nat.le_refl _) rfl hS), fun _ e => by cases e⟩
    · rename_i x y
      obtain ⟨⟨xt, st1⟩, h1, h2⟩ := Tree.at_bind h
      refine ⟨wp_seq (ih _ _ _ _ h1 E base w0 a w hS _ ?_).1, fun _ e => by cases e⟩
      intro E' a' w' hA hn hlo hS'
      cases xt with
      | normal => exact (ih _ _ _ _ h2 E' base w0 a' w' hS' Q (hQ.trans hA hn hlo)).1
      | exit i => cases h2; exact hQ E' a' w' hA hn hlo hS'
      | ret => cases h2; exact hQ E' a' w' hA hn hlo hS'
    · rename_i c x y
      refine ⟨?_, fun _ e => by cases e⟩
      split at h
      · rename_i bx hb
        obtain ⟨pc1, hp1, h1⟩ := at_branch hC.D hS.pc h
        have ec := hS.fr.orel c _ hb
        simp only [Sv.den, Sc.den, Option.some.injEq] at ec
        refine wp_cond ec.symm ?_
        have := (ih _ _ _ _ h1 E base w0 a w (hS.of_pc hp1) Q hQ).1
        cases hbx : bx.den η <;> simpa [hbx] using this
      · cases h
    · rename_i id c
      refine ⟨?_, fun _ e => by cases e⟩
      obtain ⟨⟨xt, st1⟩, h1, h2⟩ := Tree.at_bind h
      refine wp_block (ih _ _ _ _ h1 E base w0 a w hS _ ?_).1
      intro E' a' w' hA hn hlo hS'
      cases xt with
      | normal => cases h2; exact hQ E' a' w' hA hn hlo hS'
      | ret => cases h2; exact hQ E' a' w' hA hn hlo hS'
      | exit i =>
        simp only [Xt.den, Exit.inBlock]
        simp only at h2
        cases hb : Nat.beq i id with
        | true =>
          rw [hb] at h2; cases h2
          have := Nat.eq_of_beq_eq_true hb
          simp only [this, if_true]
          exact hQ E' a' w' hA hn hlo hS'
        | false =>
          rw [hb] at h2; cases h2
          have : ¬ i = id := fun e => by subst e; simp at hb
          simp only [this, if_false]
          exact hQ E' a' w' hA hn hlo hS'
    · rename_i c
      obtain ⟨⟨xt, st1⟩, h1, h2⟩ := Tree.at_bind h
      have hr : Code.rounds P c Q (n + 1) a w := by
        rw [rounds_succ]
        refine (ih _ _ _ _ h1 E base w0 a w hS _ ?_).1
        intro E' a' w' hA hn hlo hS'
        cases xt with
        | normal => exact (ih _ _ _ _ h2 E' base w0 a' w' hS' Q (hQ.trans hA hn hlo)).2 c rfl
        | exit i => cases h2; exact hQ E' a' w' hA hn hlo hS'
        | ret => cases h2; exact hQ E' a' w' hA hn hlo hS'
      exact ⟨wp_loop_rounds _ hr, fun c' e => by cases e; exact hr⟩
    · rename_i ops
      refine ⟨?_, fun _ e => by cases e⟩
      obtain ⟨st1, h1, h2⟩ := Tree.at_bind h
      cases h2
      refine wp_region ?_
      have := seqOps_run hC hcall Q ops.toList 0 st st1 (fun j => by simp) h1 E base w0 a w hS (fun E' a' w' hA hn hlo hS' => hQ E' a' w' hA hn hlo hS')
      rw [List.range_eq_range']
      simpa using this
    · rename_i ops
      refine ⟨?_, fun _ e => by cases e⟩
      obtain ⟨st1, h1, h2⟩ := Tree.at_bind h
      cases h2
      exact hD _ hcall nt ops st st1 h1 E base w0 a w hS Q _ (fun E' a' w' hA hn hlo hS' => hQ E' a' w' hA hn hlo hS')
    · cases h

theorem callE_run {C : Cx} {dr : Drawer} {P : Program} {η : Env} (hC : C.Ok P η) (hD : DrawOk P η dr) (n : Nat) : CallOk P η (callE C dr n) := callE_ok hC (exec_ok hC hD n)

end
end Go.Ex

