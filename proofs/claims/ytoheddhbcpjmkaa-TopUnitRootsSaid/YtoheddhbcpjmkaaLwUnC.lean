/-
  The direction of any part of a turn, and the unit number of a part of a turn, by values.
-/
import Derived.Test.YtoheddhbcpjmkaaLwUnD
import Derived.Test.YtoheddhbcpjmkaaLwUnP

namespace Go.Ex
open Go Go.Proofs Go.RowKit
theorem FTA_ok : fAll FTA = true := by
  simp only [FTA, fAll, List.all_append, Bool.and_eq_true]
  exact ⟨ft1, ft2, ft3, ft4, ft5, ft6⟩
theorem FTA_in : (FTA.all fun e => in26 e.2.1 && in26 e.2.2) = true := by kernel_rfl
theorem findF_mem : ∀ {l : List FEnt} {n x y : Int}, findF l n = some (x, y) → (n, x, y) ∈ l
  | [], _, _, _, h => by cases h
  | (m, a, b) :: l, n, x, y, h => by
    simp only [findF] at h
    cases hb : eqI m n with
    | true =>
      rw [hb] at h
      rw [eqI_eq] at hb
      cases h
      rw [of_decide_eq_true hb]
      exact List.mem_cons_self ..
    | false => rw [hb] at h; exact List.mem_cons_of_mem _ (findF_mem h)
theorem firF_in {n x y : Int} (h : firF n = some (x, y)) : I26 x ∧ I26 y := by
  have := List.all_eq_true.1 FTA_in _ (findF_mem h)
  simp only [Bool.and_eq_true] at this
  exact ⟨in26_iff this.1, in26_iff this.2⟩
theorem mapP_some {f : Int → Int → Int × Int} {o : Option (Int × Int)} {r : Int × Int} (h : mapP f o = some r) : ∃ x y, o = some (x, y) ∧ f x y = r := by
  unfold mapP at h
  split at h
  · cases h; exact ⟨_, _, rfl, rfl⟩
  · cases h
theorem gives_two {η : Env} {E : Emb} {p : Poly} {args : List Value} {n c : Int} (h : denArgs η E [iS p, lS c] = some args) (hn : wr (evP η.i p) = n) : args = [.int .i64 n, .int .i64 c] := by
  have h : some [Value.int .i64 (wr (evP η.i p)), .int .i64 c] = some args := h
  rw [hn] at h
  cases h; rfl
theorem gives_two' {η : Env} {E : Emb} {p q : Poly} {args : List Value} {n c : Int} (h : denArgs η E [iS p, iS q] = some args) (hn : wr (evP η.i p) = n) (hc : wr (evP η.i q) = c) : args = [.int .i64 n, .int .i64 c] := by
  have h : some [Value.int .i64 (wr (evP η.i p)), .int .i64 (wr (evP η.i q))] = some args := h
  rw [hn, hc] at h
  cases h; rfl
theorem geP_of {η : Env} {p : Poly} (h : PC.holds η (geP p)) : 0 ≤ evP η.i p := by
  have := h (.pos (pneg p), false) (List.mem_cons_self ..)
  simp only [Atom.den, evP_pneg] at this
  have := of_decide_eq_false this
  omega
theorem dir_case {mp rx ry : Poly} {lo hi : Int} (hr : (dRun mp lo hi).all (dOk rx ry) = true) {m a b q x y : Int} (hm : lo ≤ m ∧ m ≤ hi) (hlo : 0 ≤ lo) (hhi : hi ≤ 4194303) (hf : firF q = some (a, b))
    (hq : ∀ η : Env, η.i 0 = m → wr (evP η.i mp) = q) (hx : ∀ η : Env, η.i 1 = a → η.i 2 = b → wr (evP η.i rx) = x ∧ wr (evP η.i ry) = y) (w : World) :
    Calls Try.prog 62 #[.int .i64 m] w fun e w' => e = .returned (cenV x y) ∧ Below w.heap.size w w' := by
  obtain ⟨ha, hb⟩ := firF_in hf
  unfold I26 at ha hb
  obtain ⟨l, hl⟩ : ∃ l, l = [m, a, b] := ⟨_, rfl⟩
  have v0 : (vEnv l).i 0 = m := by rw [hl]; exact vEnv_i rfl (by decide) (by omega)
  have v1 : (vEnv l).i 1 = a := by rw [hl]; exact vEnv_i rfl (by decide) (by omega)
  have v2 : (vEnv l).i 2 = b := by rw [hl]; exact vEnv_i rfl (by decide) (by omega)
  clear hl
  have hg := vEnv_good l
  generalize vEnv l = η at *
  have hq := hq η v0
  obtain ⟨hx, hy⟩ := hx η v1 v2
  have w0 : wr (evP η.i (pvar 0)) = m := by rw [evP_pvar, v0]; exact wr_mid (by omega)
  have w1 : wr (evP η.i (pvar 1)) = a := by rw [evP_pvar, v1]; exact wr_mid (by omega)
  have w2 : wr (evP η.i (pvar 2)) = b := by rw [evP_pvar, v2]; exact wr_mid (by omega)
  have wd : ∀ c : Int, 0 ≤ c ∧ c ≤ 4194304 → evP η.i (pminus (pvar 0) (pconst c)) = m - c := fun c hc => by rw [evP_pminus, evP_pvar, evP_pconst, v0]
  have fl : ∀ n, 0 ≤ n ∧ n ≤ 4194303 → ∀ w, Gives Try.prog 45 #[.int .i64 n, .int .i64 turnN] w (.int .i64 0) := fun n hn w => by
    have h := floor_any n turnN w (by omega) (by decide)
    have e : n / turnN = 0 := Int.ediv_eq_zero_of_lt hn.1 (by unfold turnN; omega)
    rw [e] at h
    exact gives_of Try.fok45 (below_eq h)
  have hT1 : TabOk η 45 flT := by
    refine TabOk.cons (fun _ E args w ha => ?_) (TabOk.cons (fun hp E args w ha => ?_) (TabOk.cons (fun hp E args w ha => ?_) (TabOk.cons (fun hp E args w ha => ?_) TabOk.nil)))
    · rw [gives_two ha w0]
      exact ⟨_, rfl, fl _ (by omega) w⟩
    all_goals
      have hp := geP_of hp
      rw [wd _ (by omega)] at hp
      rw [gives_two ha ((congrArg wr (wd _ (by omega))).trans (wr_mid (by omega)))]
      exact ⟨_, rfl, fl _ (by omega) w⟩
  have hT2 : TabOk η 71 (dT mp) := TabOk.cons (fun _ E args w ha => by
    rw [gives_int ha hq]
    exact ⟨_, cS_den w1 w2, gives_of Try.fok71 (first_at FTA_ok (findF_mem hf) w)⟩) TabOk.nil
  have hC : (mkC (smDi mp)).Ok Try.prog η := mkC_ok hg (((smA_ok hg).set (by decide) (gTab_ok hg hT1)).set (by decide) (gTab_ok hg hT2))
  have hpc : PC.holds η (dPc lo hi) := holds_ap (upTo_of (by omega)) (holds_ap (upTo_of (by omega)) (upTo_of (by omega)))
  obtain ⟨r, hr, hrr⟩ := Tree.all_at (η := η) hr
  have hrr := svEq_iff hrr
  have hargs : denArgs η E0 [iS (pvar 0)] = some [.int .i64 m] := by
    show some [Value.int .i64 (wr (evP η.i (pvar 0)))] = _
    rw [w0]
  obtain ⟨v, e1, e2, e3⟩ := run_sumP hC Try.fok62 hpc hr (by rw [hrr]; rfl) w hargs
  rw [hrr, cS_den hx hy] at e1
  cases e1
  exact e3
theorem mP_ev {η : Env} {m s c q : Int} (h : η.i 0 = m) (hq : s * m + c = q) (hb : -9223372036854775807 ≤ q ∧ q ≤ 9223372036854775807) : wr (evP η.i (mP s c)) = q := by
  simp only [mP, evP_pplus, evP_ptimes, evP_pconst, evP_pvar, h, hq]
  exact wr_mid hb
theorem wv {η : Env} {v : Nat} {a : Int} (h : η.i v = a) (ha : -67108864 ≤ a ∧ a ≤ 67108864) : wr (evP η.i (pvar v)) = a := by rw [evP_pvar, h]; exact wr_mid (by omega)
theorem wvn {η : Env} {v : Nat} {a : Int} (h : η.i v = a) (ha : -67108864 ≤ a ∧ a ≤ 67108864) : wr (evP η.i (pneg (pvar v))) = -a := by rw [evP_pneg, evP_pvar, h]; exact wr_mid (by omega)
theorem dir_any {m x y : Int} (hm : 0 ≤ m ∧ m ≤ 4194303) (h : dirF m = some (x, y)) (w : World) : Calls Try.prog 62 #[.int .i64 m] w fun e w' => e = .returned (cenV x y) ∧ Below w.heap.size w w' := by
  unfold dirF at h
  have step : ∀ {c : Int} {A B : Option (Int × Int)}, (bif leI m c then A else B) = some (x, y) → (m ≤ c ∧ A = some (x, y)) ∨ (c < m ∧ B = some (x, y)) := by
    intro c A B h
    cases hb : leI m c with
    | true => rw [hb] at h; exact .inl ⟨leI_iff.1 hb, h⟩
    | false =>
      rw [hb] at h
      refine .inr ⟨?_, h⟩
      rcases Int.lt_or_le c m with h' | h'
      · exact h'
      · rw [leI_iff.2 h'] at hb; cases hb
  have fin : ∀ {a b q : Int}, firF q = some (a, b) → (-67108864 ≤ a ∧ a ≤ 67108864) ∧ (-67108864 ≤ b ∧ b ≤ 67108864) := fun h => by
    have := firF_in h
    unfold I26 at this
    omega
  rcases step h with ⟨h1, h⟩ | ⟨h1, h⟩
  · obtain ⟨a, b, hf, he⟩ := mapP_some h
    have hi := fin hf
    cases he
    exact dir_case dr0 ⟨hm.1, h1⟩ (by decide) (by decide) hf (fun η v => mP_ev v (by omega) (by omega)) (fun η u v => ⟨wv u hi.1, wv v hi.2⟩) w
  rcases step h with ⟨h2, h⟩ | ⟨h2, h⟩
  · obtain ⟨a, b, hf, he⟩ := mapP_some h
    have hi := fin hf
    cases he
    exact dir_case dr1 ⟨h1, h2⟩ (by decide) (by decide) hf (fun η v => mP_ev v (by omega) (by omega)) (fun η u v => ⟨wv v hi.2, wv u hi.1⟩) w
  rcases step h with ⟨h3, h⟩ | ⟨h3, h⟩
  · obtain ⟨a, b, hf, he⟩ := mapP_some h
    have hi := fin hf
    cases he
    exact dir_case dr2 ⟨h2, h3⟩ (by decide) (by decide) hf (fun η v => mP_ev v (by omega) (by omega)) (fun η u v => ⟨wvn v hi.2, wv u hi.1⟩) w
  rcases step h with ⟨h4, h⟩ | ⟨h4, h⟩
  · obtain ⟨a, b, hf, he⟩ := mapP_some h
    have hi := fin hf
    cases he
    exact dir_case dr3 ⟨h3, h4⟩ (by decide) (by decide) hf (fun η v => mP_ev v (by omega) (by omega)) (fun η u v => ⟨wvn u hi.1, wv v hi.2⟩) w
  rcases step h with ⟨h5, h⟩ | ⟨h5, h⟩
  · obtain ⟨a, b, hf, he⟩ := mapP_some h
    have hi := fin hf
    cases he
    exact dir_case dr4 ⟨h4, h5⟩ (by decide) (by decide) hf (fun η v => mP_ev v (by omega) (by omega)) (fun η u v => ⟨wvn u hi.1, wvn v hi.2⟩) w
  rcases step h with ⟨h6, h⟩ | ⟨h6, h⟩
  · obtain ⟨a, b, hf, he⟩ := mapP_some h
    have hi := fin hf
    cases he
    exact dir_case dr5 ⟨h5, h6⟩ (by decide) (by decide) hf (fun η v => mP_ev v (by omega) (by omega)) (fun η u v => ⟨wvn v hi.2, wvn u hi.1⟩) w
  rcases step h with ⟨h7, h⟩ | ⟨h7, h⟩
  · obtain ⟨a, b, hf, he⟩ := mapP_some h
    have hi := fin hf
    cases he
    exact dir_case dr6 ⟨h6, h7⟩ (by decide) (by decide) hf (fun η v => mP_ev v (by omega) (by omega)) (fun η u v => ⟨wv v hi.2, wvn u hi.1⟩) w
  · obtain ⟨a, b, hf, he⟩ := mapP_some h
    have hi := fin hf
    cases he
    exact dir_case dr7 ⟨h7, hm.2⟩ (by decide) (by decide) hf (fun η v => mP_ev v (by omega) (by omega)) (fun η u v => ⟨wv u hi.1, wvn v hi.2⟩) w

/-! ## Unit -/
theorem unit_bnd {i n : Int} (hi : 0 ≤ i) (hn : i < n) (hn' : n ≤ 80) : (0 ≤ uLo i n ∧ uLo i n ≤ 4194303) ∧ (uLo i n ≤ uHi i n ∧ uHi i n ≤ 4194304 ∧ uHi i n ≤ uLo i n + 1) ∧ (uLo i n ≤ uMid i n ∧ uMid i n ≤ uHi i n ∧ uMid i n ≤ 4194303) ∧ i * 4194304 ≤ 335544320 := by
  have hp : 0 < n := by omega
  have h1 : 0 ≤ i * 4194304 := by omega
  have h2 : i * 4194304 ≤ (n - 1) * 4194304 := by omega
  have q0 := Int.ediv_nonneg h1 (Int.le_of_lt hp)
  have q1 : uLo i n * n + i * 4194304 % n = i * 4194304 := by unfold uLo; rw [Int.mul_comm]; exact Int.mul_ediv_add_emod _ _
  have q2 := Int.emod_nonneg (i * 4194304) (b := n) (by omega)
  have q3 := Int.emod_lt_of_pos (i * 4194304) hp
  have q4 : uLo i n ≤ 4194303 := by
    have : i * 4194304 / n < 4194304 := Int.ediv_lt_of_lt_mul hp (by rw [Int.mul_comm 4194304 n]; omega)
    unfold uLo; omega
  have c : uHi i n = uLo i n ∨ uHi i n = uLo i n + 1 := by
    unfold uHi ceilI uLo
    rw [Int.neg_ediv]
    by_cases hd : n ∣ i * 4194304
    · left; rw [if_pos hd]; omega
    · right; rw [if_neg hd]
      have : n.sign = 1 := Int.sign_eq_one_of_pos hp
      omega
  have q0' : 0 ≤ uLo i n := q0
  refine ⟨⟨q0', q4⟩, ⟨by omega, by omega, by omega⟩, ?_, by omega⟩
  unfold uMid
  omega
theorem outV_den {η : Env} {E : Emb} {a b : Nat} {r : Ix} {x y z : Int} (h1 : wr (evP η.i (pvar a)) = x) (h2 : wr (evP η.i (pvar b)) = y) (h3 : r.den η = z) :
    (Sv.tup [(true, [.cpx .f64 (.ofI (pvar a)) (.ofI (pvar b)), .int .i64 r]), (false, [.int .i64 (.lit 0)])]).den η E = some (outV fun k => match k with | 0 => x | 1 => y | 2 => z | _ => 0) := by
  subst h3
  simp only [Sv.den, denParts, denPart, denL, Sc.den, Fx.den, h1, h2, Option.map_some, outV, ballV]
  rfl
def outT (u : Tri) : Value := outV fun k => match k with | 0 => u.1 | 1 => u.2.1 | 2 => u.2.2 | _ => 0
theorem unit_any {i n : Int} {u : Tri} (hi : 0 ≤ i) (hn : i < n) (hn' : n ≤ 80) (h : unitF i n = some u) (w : World) : Calls Try.prog 14 #[.int .i64 i, .int .i64 n] w fun e w' => e = .returned (outT u) ∧ Below w.heap.size w w' := by
  obtain ⟨⟨b1, b2⟩, ⟨b3, b4, b5⟩, ⟨b6, b7, b8⟩, b9⟩ := unit_bnd hi hn hn'
  unfold unitF at h
  cases hd : dirF (uMid i n) with
  | none => rw [hd] at h; cases h
  | some p =>
  obtain ⟨x, y⟩ := p
  rw [hd] at h
  have hu : u = (rndI x 64, rndI y 64, uRad' i n) := by cases h; rfl
  have hxy : (-67108864 ≤ x ∧ x ≤ 67108864) ∧ (-67108864 ≤ y ∧ y ≤ 67108864) := by
    unfold dirF at hd
    have fin : ∀ {a b q : Int}, firF q = some (a, b) → (-67108864 ≤ a ∧ a ≤ 67108864) ∧ (-67108864 ≤ b ∧ b ≤ 67108864) := fun h => by
      have := firF_in h
      unfold I26 at this
      omega
    have go : ∀ {f : Int → Int → Int × Int} {q : Int}, (∀ a b, (-67108864 ≤ a ∧ a ≤ 67108864) ∧ (-67108864 ≤ b ∧ b ≤ 67108864) → (-67108864 ≤ (f a b).1 ∧ (f a b).1 ≤ 67108864) ∧ (-67108864 ≤ (f a b).2 ∧ (f a b).2 ≤ 67108864)) → mapP f (firF q) = some (x, y) → (-67108864 ≤ x ∧ x ≤ 67108864) ∧ (-67108864 ≤ y ∧ y ≤ 67108864) := by
      intro f q hf h
      obtain ⟨a, b, e1, e2⟩ := mapP_some h
      have := hf a b (fin e1)
      rw [e2] at this
      exact this
    have bc : ∀ {c : Bool} {A B : Option (Int × Int)}, (bif c then A else B) = some (x, y) → A = some (x, y) ∨ B = some (x, y) := by
      intro c A B h
      cases c
      · exact .inr h
      · exact .inl h
    rcases bc hd with h | hd
    · exact go (fun a b h => by simp only; omega) h
    rcases bc hd with h | hd
    · exact go (fun a b h => by simp only; omega) h
    rcases bc hd with h | hd
    · exact go (fun a b h => by simp only; omega) h
    rcases bc hd with h | hd
    · exact go (fun a b h => by simp only; omega) h
    rcases bc hd with h | hd
    · exact go (fun a b h => by simp only; omega) h
    rcases bc hd with h | hd
    · exact go (fun a b h => by simp only; omega) h
    rcases bc hd with h | hd
    · exact go (fun a b h => by simp only; omega) h
    · exact go (fun a b h => by simp only; omega) hd
  have r1 : -2097152 ≤ rndI x 64 ∧ rndI x 64 ≤ 2097152 := by unfold rndI; omega
  have r2 : -2097152 ≤ rndI y 64 ∧ rndI y 64 ≤ 2097152 := by unfold rndI; omega
  have r3 : 0 ≤ ceilI (11 * (uHi i n - uMid i n)) 7 ∧ ceilI (11 * (uHi i n - uMid i n)) 7 ≤ 2 := by unfold ceilI; omega
  have r4 : 0 ≤ x % 64 ∧ x % 64 ≤ 63 := by omega
  have r5 : 0 ≤ y % 64 ∧ y % 64 ≤ 63 := by omega
  have r6 : (uLo i n).tmod 1048576 = uLo i n % 1048576 := Int.tmod_eq_emod_of_nonneg b1
  have r7 : 0 ≤ uLo i n % 1048576 ∧ uLo i n % 1048576 ≤ 1048575 := by omega
  obtain ⟨c, hc⟩ : ∃ c, c = ceilI (11 * (uHi i n - uMid i n)) 7 := ⟨_, rfl⟩
  obtain ⟨s, hs⟩ : ∃ s, s = uLo i n % 1048576 := ⟨_, rfl⟩
  obtain ⟨l, hl⟩ : ∃ l, l = [i, n, uLo i n, uHi i n, uMid i n, x, y, rndI x 64, rndI y 64, x % 64, y % 64, c, s] := ⟨_, rfl⟩
  have v0 : (vEnv l).i 0 = i := by rw [hl]; exact vEnv_i rfl (by decide) (by omega)
  have v1 : (vEnv l).i 1 = n := by rw [hl]; exact vEnv_i rfl (by decide) (by omega)
  have v2 : (vEnv l).i 2 = uLo i n := by rw [hl]; exact vEnv_i rfl (by decide) (by omega)
  have v3 : (vEnv l).i 3 = uHi i n := by rw [hl]; exact vEnv_i rfl (by decide) (by omega)
  have v4 : (vEnv l).i 4 = uMid i n := by rw [hl]; exact vEnv_i rfl (by decide) (by omega)
  have v5 : (vEnv l).i 5 = x := by rw [hl]; exact vEnv_i rfl (by decide) (by omega)
  have v6 : (vEnv l).i 6 = y := by rw [hl]; exact vEnv_i rfl (by decide) (by omega)
  have v7 : (vEnv l).i 7 = rndI x 64 := by rw [hl]; exact vEnv_i rfl (by decide) (by omega)
  have v8 : (vEnv l).i 8 = rndI y 64 := by rw [hl]; exact vEnv_i rfl (by decide) (by omega)
  have v9 : (vEnv l).i 9 = x % 64 := by rw [hl]; exact vEnv_i rfl (by decide) (by omega)
  have v10 : (vEnv l).i 10 = y % 64 := by rw [hl]; exact vEnv_i rfl (by decide) (by omega)
  have v11 : (vEnv l).i 11 = c := by rw [hl]; exact vEnv_i rfl (by decide) (by omega)
  have v12 : (vEnv l).i 12 = s := by rw [hl]; exact vEnv_i rfl (by decide) (by omega)
  clear hl
  have hg := vEnv_good l
  generalize vEnv l = η at *
  have ww : ∀ {v : Nat} {a : Int}, η.i v = a → -67108864 ≤ a ∧ a ≤ 67108864 → wr (evP η.i (pvar v)) = a := fun h ha => wv h ha
  have e1 : wr (evP η.i (ptimes (pvar 0) (pconst turnN))) = i * 4194304 := by rw [evP_ptimes, evP_pvar, evP_pconst, v0]; exact wr_mid (by unfold turnN; omega)
  have e2 : wr (evP η.i (pplus (pvar 2) (pvar 3))) = uLo i n + uHi i n := by rw [evP_pplus, evP_pvar, evP_pvar, v2, v3]; exact wr_mid (by omega)
  have e3 : wr (evP η.i (ptimes (pconst 11) (pminus (pvar 3) (pvar 4)))) = 11 * (uHi i n - uMid i n) := by rw [evP_ptimes, evP_pconst, evP_pminus, evP_pvar, evP_pvar, v3, v4]; exact wr_mid (by omega)
  have t45 : TabOk η 45 uT45 := TabOk.cons (fun _ E args w ha => by
      rw [gives_two' ha e1 (ww v1 (by omega))]
      exact ⟨_, iS_den (ww v2 (by omega)), gives_of Try.fok45 (below_eq (floor_any _ _ w (by omega) (by omega)))⟩) (TabOk.cons (fun _ E args w ha => by
      rw [gives_two ha e2]
      exact ⟨_, iS_den (ww v4 (by omega)), gives_of Try.fok45 (below_eq (floor_any _ _ w (by omega) (by omega)))⟩) TabOk.nil)
  have t31 : TabOk η 31 uT31 := TabOk.cons (fun _ E args w ha => by
      rw [gives_two' ha e1 (ww v1 (by omega))]
      exact ⟨_, iS_den (ww v3 (by omega)), gives_of Try.fok31 (below_eq (ceil_any _ _ w (by omega) (by omega)))⟩) (TabOk.cons (fun _ E args w ha => by
      rw [gives_two ha e3]
      refine ⟨.int .i64 c, iS_den (ww v11 (by omega)), gives_of Try.fok31 (below_eq ?_)⟩
      rw [hc]
      exact ceil_any _ _ w (by omega) (by omega)) TabOk.nil)
  have t62 : TabOk η 62 uT62 := TabOk.cons (fun _ E args w ha => by
      rw [gives_int ha (ww v4 (by omega))]
      exact ⟨_, cS_den (ww v5 (by omega)) (ww v6 (by omega)), gives_of Try.fok62 (dir_any (by omega) hd w)⟩) TabOk.nil
  have rnd : ∀ {z a b : Nat} {t : Int}, η.i z = t → -67108864 ≤ t ∧ t ≤ 67108864 → η.i a = rndI t 64 → -67108864 ≤ rndI t 64 ∧ rndI t 64 ≤ 67108864 → η.i b = t % 64 → ∀ E args w, denArgs η E [iS (pvar z), lS 64] = some args → ∃ v, (rnS a b).den η E = some v ∧ Gives Try.prog 30 args.toArray w v := by
    intro z a b t hz ht ha hta hb E args w h
    rw [gives_two h (ww hz ht)]
    refine ⟨.tuple #[.int .i64 (rndI t 64), .bool (decide (t % 64 ≠ 0))], ?_, gives_of Try.fok30 (rounded_any _ _ w (by omega) (by decide))⟩
    have q := ww ha hta
    rw [evP_pvar] at q
    simp only [rnS, Sv.den, denParts, denPart, Sc.den, Ix.den, Bx.den, Atom.den, q, evP_pvar, hb, Option.map_some]
    by_cases h0 : t % 64 = 0 <;> simp [h0]
  have t30 : TabOk η 30 uT30 := TabOk.cons (fun _ E args w ha => rnd v5 (by omega) v7 (by omega) v9 E args w ha) (TabOk.cons (fun _ E args w ha => rnd v6 (by omega) v8 (by omega) v10 E args w ha) TabOk.nil)
  have hQ : QOk η uQ := by
    intro z hz
    simp only [uQ, List.mem_cons, List.not_mem_nil, or_false] at hz
    subst hz
    refine ⟨show (1048576 : Int) ≠ 0 by decide, ?_⟩
    show wr (evP η.i (pvar 12)) = (wr (evP η.i (pvar 2))).tmod 1048576
    rw [ww v12 (by omega), ww v2 (by omega), r6, hs]
  have hC : uC.Ok Try.prog η := mkQ_ok hg (((((smA_ok hg).set (by decide) (gTab_ok hg t45)).set (by decide) (gTab_ok hg t31)).set (by decide) (gTab_ok hg t62)).set (by decide) (gTab_ok hg t30)) hQ
  have hpc : PC.holds η uPc := holds_ap (upTo_of (by omega)) (holds_ap (upTo_of (by omega)) (holds_ap (upTo_of (by omega)) (holds_ap (upTo_of (by omega)) (holds_ap (upTo_of (by omega)) (holds_ap (upTo_of (by omega)) (holds_ap (upTo_of (by omega)) (holds_ap (upTo_of (by omega)) (holds_ap (upTo_of (by omega)) (upTo_of (by omega))))))))))
  have hargs : denArgs η E0 [iS (pvar 0), iS (pvar 1)] = some [.int .i64 i, .int .i64 n] := by
    show some [Value.int .i64 (wr (evP η.i (pvar 0))), .int .i64 (wr (evP η.i (pvar 1)))] = _
    rw [ww v0 (by omega), ww v1 (by omega)]
  have key : ∀ {pc : PC} {rx : Ix} {z : Int}, (uRun pc).all (uOk rx) = true → PC.holds η pc → rx.den η = z → uRad' i n = z → Calls Try.prog 14 #[.int .i64 i, .int .i64 n] w fun e w' => e = .returned (outT u) ∧ Below w.heap.size w w' := by
    intro pc rx z hr hp hz hzu
    obtain ⟨r, hr, hrr⟩ := Tree.all_at (η := η) hr
    have hrr := svEq_iff hrr
    obtain ⟨v, e1, e2, e3⟩ := run_sumP hC Try.fok14 hp hr (by rw [hrr]; rfl) w hargs
    rw [hrr, uRes, outV_den (ww v7 (by omega)) (ww v8 (by omega)) hz] at e1
    cases e1
    rw [hu, outT, hzu]
    exact e3
  have hrad : (Ix.poly uRad).den η = 2 + c := by
    show wr (evP η.i uRad) = _
    rw [uRad, evP_pplus, evP_pconst, evP_pvar, v11]; exact wr_mid (by omega)
  have heq : evP η.i (pminus (pvar 2) (pvar 3)) = uLo i n - uHi i n := by rw [evP_pminus, evP_pvar, evP_pvar, v2, v3]
  by_cases he : uLo i n = uHi i n
  · by_cases hz : s = 0
    · refine key ur3 (holds_cs ?_ (holds_cs ?_ hpc)) rfl ?_
      · simp only [Atom.den]; exact decide_eq_true (by omega)
      · simp only [Atom.den, evP_pvar, v12]; exact decide_eq_true hz
      · have e1 : eqI (uLo i n) (uHi i n) = true := by rw [eqI_eq]; exact decide_eq_true he
        have e2 : eqI (uLo i n % 1048576) 0 = true := by rw [eqI_eq, ← hs]; exact decide_eq_true hz
        rw [uRad', e1, e2]; rfl
    · refine key ur2 (holds_cs ?_ (holds_cs ?_ hpc)) hrad ?_
      · simp only [Atom.den]; exact decide_eq_true (by omega)
      · simp only [Atom.den, evP_pvar, v12]; exact decide_eq_false hz
      · have e2 : eqI (uLo i n % 1048576) 0 = false := by rw [eqI_eq, ← hs]; exact decide_eq_false hz
        rw [uRad', e2, Bool.and_false, hc]; rfl
  · refine key ur1 (holds_cs ?_ hpc) hrad ?_
    · simp only [Atom.den]; exact decide_eq_false (by omega)
    · have e1 : eqI (uLo i n) (uHi i n) = false := by rw [eqI_eq]; exact decide_eq_false he
      rw [uRad', e1, Bool.false_and, hc]; rfl
end Go.Ex

