/-
  What the law TopJonesIntoMueller knows besides: of each element, its Jones matrix (names 1000 + 100 i ..), its scale (.. + 8), its Mueller matrix (.. + 10 ..), the wave behind it (.. + 30 ..), the product of the Mueller matrices (.. + 40 ..).
-/
import Derived.Test.YtcggbkocpahkdaaPoE
import Derived.Test.YtcggbkocpahkdaaEx32
namespace Go.Ex
open Go Go.Proofs
noncomputable section
def joPolS (c : Sc) : Poly := match polyOf c with
  | some p => p
  | none => []
def joMu : List Poly := match r_rmueller with
  | .agg l => l.map joPolS
  | _ => []
def joNth (l : List Poly) (k : Nat) : Poly := match nth l k with
  | some p => p
  | none => []
def vr (a k : Nat) : Poly := pvar (a + k)
def vars (a : Nat) : Nat → List Poly
  | 0 => []
  | n + 1 => pvar a :: vars (a + 1) n
def sq (p : Poly) : Poly := ptimes p p
/-- A polariser, a plate: turn at a, phase at p. -/
def jPol (a : Nat) : List Poly := [sq (pvar a), [], ptimes (pvar a) (pvar (a + 1)), [], ptimes (pvar a) (pvar (a + 1)), [], sq (pvar (a + 1)), []]
def jPla (p a : Nat) : List Poly :=
  let x := pvar a; let y := pvar (a + 1); let r := pvar (p + 2); let c := pvar p; let d := pvar (p + 1)
  let re := ptimes (ptimes x y) (pminus r c); let im := pneg (ptimes (ptimes x y) d)
  [pplus (ptimes (sq x) r) (ptimes (sq y) c), ptimes (sq y) d, re, im, re, im, pplus (ptimes (sq y) r) (ptimes (sq x) c), ptimes (sq x) d]
def jPass (j w : Nat) : List Poly :=
  let m (a b : Nat) : Poly × Poly := (pminus (ptimes (pvar (j + 2 * a)) (pvar (w + 2 * b))) (ptimes (pvar (j + 2 * a + 1)) (pvar (w + 2 * b + 1))), pplus (ptimes (pvar (j + 2 * a)) (pvar (w + 2 * b + 1))) (ptimes (pvar (j + 2 * a + 1)) (pvar (w + 2 * b))))
  [pplus (m 0 0).1 (m 1 1).1, pplus (m 0 0).2 (m 1 1).2, pplus (m 2 0).1 (m 3 1).1, pplus (m 2 0).2 (m 3 1).2]
def jJoin (m a k : Nat) : Poly :=
  let r := k / 4 * 4; let c := k % 4
  pplus (pplus (ptimes (pvar (m + r)) (pvar (a + c))) (ptimes (pvar (m + r + 1)) (pvar (a + 4 + c)))) (pplus (ptimes (pvar (m + r + 2)) (pvar (a + 8 + c))) (ptimes (pvar (m + r + 3)) (pvar (a + 12 + c))))
def jb (i : Nat) : Nat := 1000 + 100 * i
def zipD (r : Poly) : Nat → List Poly → List Poly → Dtab
  | v, p :: ps, q :: qs => (v, 1, [r, p, q]) :: zipD r (v + 1) ps qs
  | _, _, _ => []
def idD : Nat → List Poly → Dtab
  | _, [] => []
  | v, p :: ps => (v, 0, [p]) :: idD (v + 1) ps
def jMul (i : Nat) : List Poly := joMu.map (subP (vars (jb i) 8))
def jWave (n i : Nat) : Nat := if i = 0 then 6 * n else jb (i - 1) + 30
def jAll (i : Nat) : List Poly := if i = 0 then vars (jb 0 + 10) 16 else [0, 1, 2, 3, 4, 5, 6, 7, 8, 9, 10, 11, 12, 13, 14, 15].map (jJoin (jb i + 10) (jb (i - 1) + 40))
def jDi (n i : Nat) : Dtab :=
  let e := 6 * i
  zipD (pvar (e + 2)) (jb i) (jPol (e + 3)) (jPla e (e + 3)) ++ ((jb i + 8, 1, [pvar (e + 2), sq (pvar (e + 5)), ptimes (pvar (e + 2)) (sq (pvar (e + 5)))]) ::
    (idD (jb i + 10) (jMul i) ++ (idD (jb i + 30) (jPass (jb i) (jWave n i)) ++ idD (jb i + 40) (jAll i))))
def jD (n : Nat) : Nat → Dtab
  | 0 => []
  | i + 1 => jD n i ++ jDi n i
def nmsJ (i : Nat) : List (List Nat) := [[jb i, jb i + 1, jb i + 2, jb i + 3, jb i + 4, jb i + 5, jb i + 6, jb i + 7], [jb i + 8]]
def cnt (a : Nat) : Nat → List Nat
  | 0 => []
  | n + 1 => a :: cnt (a + 1) n
def altsJ : List (List (List Nat)) := [nmsJ 0, nmsJ 1, nmsJ 2]
def altsM : List (List (List Nat)) := [[cnt (jb 0 + 10) 16], [cnt (jb 1 + 10) 16], [cnt (jb 2 + 10) 16]]
def altsW : List (List (List Nat)) := [[cnt (jb 0 + 30) 4], [cnt (jb 1 + 30) 4], [cnt (jb 2 + 30) 4]]
def altsA : List (List (List Nat)) := [[cnt (jb 0 + 40) 16], [cnt (jb 1 + 40) 16], [cnt (jb 2 + 40) 16]]
def jRun (f : FI) : List Sv → PC → Tree (Sv × PC) := gRun (mkC smE) 3000 f ⟨[], [], fun _ _ => true⟩ []
theorem f_polarReady {η : Env} (hg : GoodF η) : SumOk Try.prog η 68 (gLit [] (.one (.bool (.lit true)))) := lit_sum (C := mkC smE) (n := 3000) (mkC_ok hg (smE_ok hg)) Try.fok68 (by kernel_rfl) (by kernel_rfl)
/-- The summaries of the law. -/
def smJ (Z : Nm) : T (List Sv → PC → Tree (Sv × PC)) :=
  ((((((((smE.set 68 (some (gLit [] (.one (.bool (.lit true)))))).set 69 (some (gName (jRun (FI.of Try.f69 true)) Z altsJ))).set 54 (some (gName (gPr (jRun (FI.of Try.f54 true))) Z altsM))).set 65 (some (gPr (jRun (FI.of Try.f65 true))))).set 32 (some (gName (gPr (gMerge 1000 (jRun (FI.of Try.f32 true)))) Z altsW))).set 70 (some (gName (gPr (gFN [(true, qI 16), (true, qI 16)] [] fsJoined)) Z altsA))).set 67 (some (gPr (gFN [(true, qI 16), (true, qI 4)] [] fsThrough)))).set 30 (some (gPr (jRun (FI.of Try.f30 true)))))
def keepJ (v u : Nat) : Bool := bif Nat.ble 40 (v % 100) then Nat.blt u 1000 || Nat.ble (v - 10) u else true
def jArgs (n : Nat) : List Sv := .one (.asl 0 (.lit (.ofNat n)) 9000) :: canA (6 * n) 0 [(true, [.i, .i, .i, .i])]
def jSt (n : Nat) (pc : PC) : St := stM (canL 0 0 (List.replicate (6 * n) .i)) pc
end
end Go.Ex

/-
  What the law TopJonesIntoMueller knows besides, of each element: its size, that it lets out at most all light and of some all, and the Stokes vector behind it.
-/
namespace Go.Ex
open Go Go.Proofs
noncomputable section
def bndJ (m : Int) (v : Nat) : Nat → PC
  | 0 => []
  | n + 1 => (.pos [([v], 1), ([], -m)], false) :: (.pos [([v], -1), ([], -m)], false) :: bndJ m (v + 1) n
def turnPre (a : Nat) : PC := [(.pos [([a], -1), ([a + 2], -1)], false), (.pos [([a], 1), ([a + 2], -1)], false), (.pos [([a + 1], -1), ([a + 2], -1)], false), (.pos [([a + 1], 1), ([a + 2], -1)], false), (.zer [([a, a], 1), ([a + 1, a + 1], 1), ([a + 2, a + 2], -1)], true)]
def elPre (e : Nat) : PC := (.pos [([e + 5], -1), ([], 1)], false) :: (.pos [([e + 5], 1), ([], -5)], false) :: (.pos [([e + 2], -1)], false) :: (.pos [([e + 2], 1), ([], -5)], false) :: turnPre (e + 3)
def pre0 (e : Nat) : PC := (.zer [([e + 2], 1)], true) :: elPre e
def pre1 (e : Nat) : PC := (.zer [([e + 2], 1)], false) :: (turnPre e ++ elPre e)
def postJ (i : Nat) : PC := (.pos [([jb i + 8], -1), ([], 1)], false) :: (.pos [([jb i + 8], 1), ([], -125)], false) :: bndJ 250 (jb i) 8
/-- Room for light, and what is not yet let out of it, at a scale that is less by k. -/
def joRoom (i : Nat) (k : Int) : Poly := pminus (pminus (pmulT [] 2 (sq (pvar (jb i + 8)))) (pconst k)) (pvar (jb i + 10))
def joRest (i : Nat) : Poly := pplus (sq (pvar (jb i + 11))) (pplus (sq (pvar (jb i + 12))) (sq (pvar (jb i + 13))))
def joOver (i : Nat) (k : Int) : Poly := pminus (joRest i) (sq (joRoom i k))
def postM0 (i : Nat) : PC := (.pos (pneg (joRoom i 0)), false) :: (.pos (joOver i 0), false) :: (.pos (pneg (joRoom i 1)), false) :: (.pos (joOver i 1), true) :: bndJ 1000000 (jb i + 10) 16
def postM1 (i : Nat) : PC := (.pos (pneg (joRoom i 0)), false) :: (.pos (joOver i 0), false) :: (.pos (pneg (joRoom i 1)), true) :: bndJ 1000000 (jb i + 10) 16
def bndW (n i : Nat) : PC := bndJ 1000 (jWave n i) 4
def joSt (w r : Nat) : Poly :=
  let a := pplus (sq (pvar w)) (sq (pvar (w + 1))); let b := pplus (sq (pvar (w + 2))) (sq (pvar (w + 3)))
  match r with
  | 0 => pplus a b
  | 1 => pminus a b
  | 2 => pmulT [] 2 (pplus (ptimes (pvar w) (pvar (w + 2))) (ptimes (pvar (w + 1)) (pvar (w + 3))))
  | _ => pmulT [] 2 (pminus (ptimes (pvar w) (pvar (w + 3))) (ptimes (pvar (w + 1)) (pvar (w + 2))))
def joLight (n i r : Nat) : Poly :=
  let t (c : Nat) := ptimes (pvar (jb i + 40 + 4 * r + c)) (joSt (6 * n) c)
  pplus (pplus (t 0) (t 1)) (pplus (t 2) (t 3))
def joZ (n i r : Nat) : Poly := pminus (joLight n i r) (pmulT [] ((2 : Int) ^ (i + 1)) (joSt (jb i + 30) r))
def zF (p : Poly) : PC := match zerB p with
  | .at_ n a => [(a, !n)]
  | _ => []
def postZ (n i : Nat) : PC := zF (joZ n i 0) ++ (zF (joZ n i 1) ++ (zF (joZ n i 2) ++ zF (joZ n i 3)))
def preW (n i : Nat) : PC := [(.small 1000 (jPass (jb i) (jWave n i)), true)]
/-- The products are small, or (of the first one) its numbers are. -/
def preS (i : Nat) : PC := if i = 0 then [] else [(.small 1000000000 (jAll i), true)]
def preZ (n i : Nat) : PC := bndJ 250 (jb i) 8 ++ (bndW n i ++ (if i = 0 then [] else bndJ 1000000000 (jb (i - 1) + 40) 16 ++ postZ n (i - 1)))
def jXi (n i : Nat) : XTab' := [(jb i, pre0 (6 * i), postJ i), (jb i, pre1 (6 * i), postJ i), (jb i + 10, pre0 (6 * i), postM0 i), (jb i + 10, pre1 (6 * i), postM1 i),
  (jb i + 30, preW n i, bndJ 1000 (jb i + 30) 4), (jb i + 40, preS i ++ preZ n i, bndJ 1000000000 (jb i + 40) 16 ++ postZ n i)]
def jX (n : Nat) : Nat → XTab'
  | 0 => []
  | i + 1 => jX n i ++ jXi n i
def jZ (n : Nat) : Nm := ⟨jD n n, jX n n, keepJ⟩
def jWay : Nat → Nat → PC
  | 0, _ => []
  | n + 1, k => (.zer [([6 * n + 2], 1)], Nat.beq (k % 2) 0) :: jWay n (k / 2)
end
end Go.Ex
