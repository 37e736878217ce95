/-
  No cell of these rows narrows 'for every input' (looked for: loops, veiled, ifaces, maps, wideKeys, modest, calm, conditions, laid).
  DERIVED. THE GIVEN ROWS OF THIS SEAT. 17 by the template 'for every input the law returns true; each argument reads behind the call as it read before'; 0 by the template 'total and deterministic' (their statements: YtcggbkocpahkdaaTotals.lean).
  GIVEN WITH THE SEED: the statements are not yours to turn. If you find one false, say at which input.
  Laid BY PROGRAM, IN A SANDBOX (cutbox-rows.mjs): the forced cells as the released guide's own fill.sh prints them over the translation d251b22a481dbd3c… (all of the seat's roots in one cut). By AI agents, Wed Nov 11 2026. No macro, syntax, notation, axiom, sorry.
-/
import Derived.Test.YtcggbkocpahkdaaChecked
import GoSem.Claim
import GoSem.ClaimJoined
import GoSem.ClaimMapViews
import Derived.JoinedTies
import Derived.KernelRfl
namespace Go.Proofs.Ytcggbkocpahkdaa
/- THE CELL 'sum', in the pinned program and in every row, IS THE sha256 OF THE DUMP (.gsa) THAT YtcggbkocpahkdaaProg.lean LOADS. Nothing in Lean hashes anything: it is a label: what it is worth is what the hold of that sum in a sandbox is worth. -/
noncomputable def Try.pinned : Pinned := { name := "ytcggbkocpahkdaa", sum := "d251b22a481dbd3ce798c4e4b5809f271a76b8c1e286215e94a4840d87b5d41b", checked := Try.checked }
namespace Rows
def none {H : Type} : Left H := { results := [], args := [] }

/-- 'etalonlaw05.PolarWitnesses': WHATEVER THE INPUT: true; the input reads as it did. -/
def polarWitnessesSpec : ChangeSpec := { name := "polarWitnesses", fn := fun _ => fun
  | [d1, d2] => { results := [.lit (.bool true)], args := [d1, d2] }
  | _ => none }
def polarWitnessesRow : OpenClaim := { program := "ytcggbkocpahkdaa", sum := "d251b22a481dbd3ce798c4e4b5809f271a76b8c1e286215e94a4840d87b5d41b", func := "etalon/etalonlaw05.PolarWitnesses", spec := "polarWitnesses", inPlace := ["math.archTrunc", "math.Float64bits", "math.Float64frombits"], apart := false }
def PolarWitnessesSaid : Prop := polarWitnessesRow.holds Try.pinned (OpenSpec.ofChange polarWitnessesSpec)

/-- ITS FALSE NEIGHBOUR: 'it returns false'. Refute it at one input. -/
def polarWitnessesWrong : ChangeSpec := { name := "polarWitnesses", fn := fun _ => fun
  | [d1, d2] => { results := [.lit (.bool false)], args := [d1, d2] }
  | _ => none }
def PolarWitnessesWrongFalsely : Prop := polarWitnessesRow.holds Try.pinned (OpenSpec.ofChange polarWitnessesWrong)

/-- 'etalonlaw05.PolarProducts': WHATEVER THE INPUT: true; the input reads as it did. -/
def polarProductsSpec : ChangeSpec := { name := "polarProducts", fn := fun _ => fun
  | [d1, d2] => { results := [.lit (.bool true)], args := [d1, d2] }
  | _ => none }
def polarProductsRow : OpenClaim := { program := "ytcggbkocpahkdaa", sum := "d251b22a481dbd3ce798c4e4b5809f271a76b8c1e286215e94a4840d87b5d41b", func := "etalon/etalonlaw05.PolarProducts", spec := "polarProducts", inPlace := ["math.archTrunc", "math.Float64bits", "math.Float64frombits"], apart := false }
def PolarProductsSaid : Prop := polarProductsRow.holds Try.pinned (OpenSpec.ofChange polarProductsSpec)

/-- ITS FALSE NEIGHBOUR: 'it returns false'. Refute it at one input. -/
def polarProductsWrong : ChangeSpec := { name := "polarProducts", fn := fun _ => fun
  | [d1, d2] => { results := [.lit (.bool false)], args := [d1, d2] }
  | _ => none }
def PolarProductsWrongFalsely : Prop := polarProductsRow.holds Try.pinned (OpenSpec.ofChange polarProductsWrong)

/-- 'etalonlaw05.PolarWaves': WHATEVER THE INPUT: true; the input reads as it did. -/
def polarWavesSpec : ChangeSpec := { name := "polarWaves", fn := fun _ => fun
  | [d1, d2] => { results := [.lit (.bool true)], args := [d1, d2] }
  | _ => none }
def polarWavesRow : OpenClaim := { program := "ytcggbkocpahkdaa", sum := "d251b22a481dbd3ce798c4e4b5809f271a76b8c1e286215e94a4840d87b5d41b", func := "etalon/etalonlaw05.PolarWaves", spec := "polarWaves", inPlace := ["math.archTrunc", "math.Float64bits", "math.Float64frombits"], apart := false }
def PolarWavesSaid : Prop := polarWavesRow.holds Try.pinned (OpenSpec.ofChange polarWavesSpec)

/-- ITS FALSE NEIGHBOUR: 'it returns false'. Refute it at one input. -/
def polarWavesWrong : ChangeSpec := { name := "polarWaves", fn := fun _ => fun
  | [d1, d2] => { results := [.lit (.bool false)], args := [d1, d2] }
  | _ => none }
def PolarWavesWrongFalsely : Prop := polarWavesRow.holds Try.pinned (OpenSpec.ofChange polarWavesWrong)

/-- 'etalonlaw05.PolarPlates': WHATEVER THE INPUT: true; the input reads as it did. -/
def polarPlatesSpec : ChangeSpec := { name := "polarPlates", fn := fun _ => fun
  | [d1, d2] => { results := [.lit (.bool true)], args := [d1, d2] }
  | _ => none }
def polarPlatesRow : OpenClaim := { program := "ytcggbkocpahkdaa", sum := "d251b22a481dbd3ce798c4e4b5809f271a76b8c1e286215e94a4840d87b5d41b", func := "etalon/etalonlaw05.PolarPlates", spec := "polarPlates", inPlace := ["math.archTrunc", "math.Float64bits", "math.Float64frombits"], apart := false }
def PolarPlatesSaid : Prop := polarPlatesRow.holds Try.pinned (OpenSpec.ofChange polarPlatesSpec)

/-- ITS FALSE NEIGHBOUR: 'it returns false'. Refute it at one input. -/
def polarPlatesWrong : ChangeSpec := { name := "polarPlates", fn := fun _ => fun
  | [d1, d2] => { results := [.lit (.bool false)], args := [d1, d2] }
  | _ => none }
def PolarPlatesWrongFalsely : Prop := polarPlatesRow.holds Try.pinned (OpenSpec.ofChange polarPlatesWrong)

/-- 'etalonlaw05.PolarTurns': WHATEVER THE INPUT: true; the input reads as it did. -/
def polarTurnsSpec : ChangeSpec := { name := "polarTurns", fn := fun _ => fun
  | [d1, d2] => { results := [.lit (.bool true)], args := [d1, d2] }
  | _ => none }
def polarTurnsRow : OpenClaim := { program := "ytcggbkocpahkdaa", sum := "d251b22a481dbd3ce798c4e4b5809f271a76b8c1e286215e94a4840d87b5d41b", func := "etalon/etalonlaw05.PolarTurns", spec := "polarTurns", inPlace := ["math.archTrunc", "math.Float64bits", "math.Float64frombits"], apart := false }
def PolarTurnsSaid : Prop := polarTurnsRow.holds Try.pinned (OpenSpec.ofChange polarTurnsSpec)

/-- ITS FALSE NEIGHBOUR: 'it returns false'. Refute it at one input. -/
def polarTurnsWrong : ChangeSpec := { name := "polarTurns", fn := fun _ => fun
  | [d1, d2] => { results := [.lit (.bool false)], args := [d1, d2] }
  | _ => none }
def PolarTurnsWrongFalsely : Prop := polarTurnsRow.holds Try.pinned (OpenSpec.ofChange polarTurnsWrong)

/-- 'etalonlaw05.PolarBack': WHATEVER THE INPUT: true; the input reads as it did. -/
def polarBackSpec : ChangeSpec := { name := "polarBack", fn := fun _ => fun
  | [d] => { results := [.lit (.bool true)], args := [d] }
  | _ => none }
def polarBackRow : OpenClaim := { program := "ytcggbkocpahkdaa", sum := "d251b22a481dbd3ce798c4e4b5809f271a76b8c1e286215e94a4840d87b5d41b", func := "etalon/etalonlaw05.PolarBack", spec := "polarBack", inPlace := ["math.archTrunc", "math.Float64bits", "math.Float64frombits"], apart := false }
def PolarBackSaid : Prop := polarBackRow.holds Try.pinned (OpenSpec.ofChange polarBackSpec)

/-- ITS FALSE NEIGHBOUR: 'it returns false'. Refute it at one input. -/
def polarBackWrong : ChangeSpec := { name := "polarBack", fn := fun _ => fun
  | [d] => { results := [.lit (.bool false)], args := [d] }
  | _ => none }
def PolarBackWrongFalsely : Prop := polarBackRow.holds Try.pinned (OpenSpec.ofChange polarBackWrong)

/-- 'etalonlaw05.PolarStokes': WHATEVER THE INPUT: true; the input reads as it did. -/
def polarStokesSpec : ChangeSpec := { name := "polarStokes", fn := fun _ => fun
  | [d] => { results := [.lit (.bool true)], args := [d] }
  | _ => none }
def polarStokesRow : OpenClaim := { program := "ytcggbkocpahkdaa", sum := "d251b22a481dbd3ce798c4e4b5809f271a76b8c1e286215e94a4840d87b5d41b", func := "etalon/etalonlaw05.PolarStokes", spec := "polarStokes", inPlace := ["math.archTrunc", "math.Float64bits", "math.Float64frombits"], apart := false }
def PolarStokesSaid : Prop := polarStokesRow.holds Try.pinned (OpenSpec.ofChange polarStokesSpec)

/-- ITS FALSE NEIGHBOUR: 'it returns false'. Refute it at one input. -/
def polarStokesWrong : ChangeSpec := { name := "polarStokes", fn := fun _ => fun
  | [d] => { results := [.lit (.bool false)], args := [d] }
  | _ => none }
def PolarStokesWrongFalsely : Prop := polarStokesRow.holds Try.pinned (OpenSpec.ofChange polarStokesWrong)

/-- 'etalonlaw05.PolarCoherencies': WHATEVER THE INPUT: true; the input reads as it did. -/
def polarCoherenciesSpec : ChangeSpec := { name := "polarCoherencies", fn := fun _ => fun
  | [d] => { results := [.lit (.bool true)], args := [d] }
  | _ => none }
def polarCoherenciesRow : OpenClaim := { program := "ytcggbkocpahkdaa", sum := "d251b22a481dbd3ce798c4e4b5809f271a76b8c1e286215e94a4840d87b5d41b", func := "etalon/etalonlaw05.PolarCoherencies", spec := "polarCoherencies", inPlace := ["math.archTrunc", "math.Float64bits", "math.Float64frombits"], apart := false }
def PolarCoherenciesSaid : Prop := polarCoherenciesRow.holds Try.pinned (OpenSpec.ofChange polarCoherenciesSpec)

/-- ITS FALSE NEIGHBOUR: 'it returns false'. Refute it at one input. -/
def polarCoherenciesWrong : ChangeSpec := { name := "polarCoherencies", fn := fun _ => fun
  | [d] => { results := [.lit (.bool false)], args := [d] }
  | _ => none }
def PolarCoherenciesWrongFalsely : Prop := polarCoherenciesRow.holds Try.pinned (OpenSpec.ofChange polarCoherenciesWrong)

/-- 'etalonlaw05.PolarPassive': WHATEVER THE INPUT: true; the input reads as it did. -/
def polarPassiveSpec : ChangeSpec := { name := "polarPassive", fn := fun _ => fun
  | [d1, d2, d3] => { results := [.lit (.bool true)], args := [d1, d2, d3] }
  | _ => none }
def polarPassiveRow : OpenClaim := { program := "ytcggbkocpahkdaa", sum := "d251b22a481dbd3ce798c4e4b5809f271a76b8c1e286215e94a4840d87b5d41b", func := "etalon/etalonlaw05.PolarPassive", spec := "polarPassive", inPlace := ["math.archTrunc", "math.Float64bits", "math.Float64frombits"], apart := false }
def PolarPassiveSaid : Prop := polarPassiveRow.holds Try.pinned (OpenSpec.ofChange polarPassiveSpec)

/-- ITS FALSE NEIGHBOUR: 'it returns false'. Refute it at one input. -/
def polarPassiveWrong : ChangeSpec := { name := "polarPassive", fn := fun _ => fun
  | [d1, d2, d3] => { results := [.lit (.bool false)], args := [d1, d2, d3] }
  | _ => none }
def PolarPassiveWrongFalsely : Prop := polarPassiveRow.holds Try.pinned (OpenSpec.ofChange polarPassiveWrong)

/-- 'etalontop.TopJonesIntoMueller': WHATEVER THE INPUT: true; the input reads as it did. -/
def topJonesIntoMuellerSpec : ChangeSpec := { name := "topJonesIntoMueller", fn := fun _ => fun
  | [d1, d2] => { results := [.lit (.bool true)], args := [d1, d2] }
  | _ => none }
def topJonesIntoMuellerRow : OpenClaim := { program := "ytcggbkocpahkdaa", sum := "d251b22a481dbd3ce798c4e4b5809f271a76b8c1e286215e94a4840d87b5d41b", func := "etalon/etalontop.TopJonesIntoMueller", spec := "topJonesIntoMueller", inPlace := ["math.archTrunc", "math.Float64bits", "math.Float64frombits"], apart := false }
def TopJonesIntoMuellerSaid : Prop := topJonesIntoMuellerRow.holds Try.pinned (OpenSpec.ofChange topJonesIntoMuellerSpec)

/-- ITS FALSE NEIGHBOUR: 'it returns false'. Refute it at one input. -/
def topJonesIntoMuellerWrong : ChangeSpec := { name := "topJonesIntoMueller", fn := fun _ => fun
  | [d1, d2] => { results := [.lit (.bool false)], args := [d1, d2] }
  | _ => none }
def TopJonesIntoMuellerWrongFalsely : Prop := topJonesIntoMuellerRow.holds Try.pinned (OpenSpec.ofChange topJonesIntoMuellerWrong)

/-- 'etalonlaw05.PolarMuellers': WHATEVER THE INPUT: true; the input reads as it did. -/
def polarMuellersSpec : ChangeSpec := { name := "polarMuellers", fn := fun _ => fun
  | [d1, d2, d3] => { results := [.lit (.bool true)], args := [d1, d2, d3] }
  | _ => none }
def polarMuellersRow : OpenClaim := { program := "ytcggbkocpahkdaa", sum := "d251b22a481dbd3ce798c4e4b5809f271a76b8c1e286215e94a4840d87b5d41b", func := "etalon/etalonlaw05.PolarMuellers", spec := "polarMuellers", inPlace := ["math.archTrunc", "math.Float64bits", "math.Float64frombits"], apart := false }
def PolarMuellersSaid : Prop := polarMuellersRow.holds Try.pinned (OpenSpec.ofChange polarMuellersSpec)

/-- ITS FALSE NEIGHBOUR: 'it returns false'. Refute it at one input. -/
def polarMuellersWrong : ChangeSpec := { name := "polarMuellers", fn := fun _ => fun
  | [d1, d2, d3] => { results := [.lit (.bool false)], args := [d1, d2, d3] }
  | _ => none }
def PolarMuellersWrongFalsely : Prop := polarMuellersRow.holds Try.pinned (OpenSpec.ofChange polarMuellersWrong)

/-- 'etalonlaw05.PolarPure': WHATEVER THE INPUT: true; the input reads as it did. -/
def polarPureSpec : ChangeSpec := { name := "polarPure", fn := fun _ => fun
  | [d] => { results := [.lit (.bool true)], args := [d] }
  | _ => none }
def polarPureRow : OpenClaim := { program := "ytcggbkocpahkdaa", sum := "d251b22a481dbd3ce798c4e4b5809f271a76b8c1e286215e94a4840d87b5d41b", func := "etalon/etalonlaw05.PolarPure", spec := "polarPure", inPlace := ["math.archTrunc", "math.Float64bits", "math.Float64frombits"], apart := false }
def PolarPureSaid : Prop := polarPureRow.holds Try.pinned (OpenSpec.ofChange polarPureSpec)

/-- ITS FALSE NEIGHBOUR: 'it returns false'. Refute it at one input. -/
def polarPureWrong : ChangeSpec := { name := "polarPure", fn := fun _ => fun
  | [d] => { results := [.lit (.bool false)], args := [d] }
  | _ => none }
def PolarPureWrongFalsely : Prop := polarPureRow.holds Try.pinned (OpenSpec.ofChange polarPureWrong)

/-- 'etalonlaw05.PolarNever': WHATEVER THE INPUT: true; the input reads as it did. -/
def polarNeverSpec : ChangeSpec := { name := "polarNever", fn := fun _ => fun
  | [d1, d2, d3] => { results := [.lit (.bool true)], args := [d1, d2, d3] }
  | _ => none }
def polarNeverRow : OpenClaim := { program := "ytcggbkocpahkdaa", sum := "d251b22a481dbd3ce798c4e4b5809f271a76b8c1e286215e94a4840d87b5d41b", func := "etalon/etalonlaw05.PolarNever", spec := "polarNever", inPlace := ["math.archTrunc", "math.Float64bits", "math.Float64frombits", "math/bits.Sub64", "math/bits.Add64"], apart := false }
def PolarNeverSaid : Prop := polarNeverRow.holds Try.pinned (OpenSpec.ofChange polarNeverSpec)

/-- ITS FALSE NEIGHBOUR: 'it returns false'. Refute it at one input. -/
def polarNeverWrong : ChangeSpec := { name := "polarNever", fn := fun _ => fun
  | [d1, d2, d3] => { results := [.lit (.bool false)], args := [d1, d2, d3] }
  | _ => none }
def PolarNeverWrongFalsely : Prop := polarNeverRow.holds Try.pinned (OpenSpec.ofChange polarNeverWrong)

/-- 'etalonlaw05.PolarBothWays': WHATEVER THE INPUT: true; the input reads as it did. -/
def polarBothWaysSpec : ChangeSpec := { name := "polarBothWays", fn := fun _ => fun
  | [d1, d2, d3] => { results := [.lit (.bool true)], args := [d1, d2, d3] }
  | _ => none }
def polarBothWaysRow : OpenClaim := { program := "ytcggbkocpahkdaa", sum := "d251b22a481dbd3ce798c4e4b5809f271a76b8c1e286215e94a4840d87b5d41b", func := "etalon/etalonlaw05.PolarBothWays", spec := "polarBothWays", inPlace := ["math.archTrunc", "math.Float64bits", "math.Float64frombits"], apart := false }
def PolarBothWaysSaid : Prop := polarBothWaysRow.holds Try.pinned (OpenSpec.ofChange polarBothWaysSpec)

/-- ITS FALSE NEIGHBOUR: 'it returns false'. Refute it at one input. -/
def polarBothWaysWrong : ChangeSpec := { name := "polarBothWays", fn := fun _ => fun
  | [d1, d2, d3] => { results := [.lit (.bool false)], args := [d1, d2, d3] }
  | _ => none }
def PolarBothWaysWrongFalsely : Prop := polarBothWaysRow.holds Try.pinned (OpenSpec.ofChange polarBothWaysWrong)

/-- 'etalonlaw05.PolarSquares': WHATEVER THE INPUT: true; the input reads as it did. -/
def polarSquaresSpec : ChangeSpec := { name := "polarSquares", fn := fun _ => fun
  | [d] => { results := [.lit (.bool true)], args := [d] }
  | _ => none }
def polarSquaresRow : OpenClaim := { program := "ytcggbkocpahkdaa", sum := "d251b22a481dbd3ce798c4e4b5809f271a76b8c1e286215e94a4840d87b5d41b", func := "etalon/etalonlaw05.PolarSquares", spec := "polarSquares", inPlace := ["math.archTrunc", "math.Float64bits", "math.Float64frombits", "math/bits.Sub64", "math/bits.Add64"], apart := false }
def PolarSquaresSaid : Prop := polarSquaresRow.holds Try.pinned (OpenSpec.ofChange polarSquaresSpec)

/-- ITS FALSE NEIGHBOUR: 'it returns false'. Refute it at one input. -/
def polarSquaresWrong : ChangeSpec := { name := "polarSquares", fn := fun _ => fun
  | [d] => { results := [.lit (.bool false)], args := [d] }
  | _ => none }
def PolarSquaresWrongFalsely : Prop := polarSquaresRow.holds Try.pinned (OpenSpec.ofChange polarSquaresWrong)

/-- 'etalonlaw05.PolarSamples': WHATEVER THE INPUT: true; the input reads as it did. -/
def polarSamplesSpec : ChangeSpec := { name := "polarSamples", fn := fun _ => fun
  | [d] => { results := [.lit (.bool true)], args := [d] }
  | _ => none }
def polarSamplesRow : OpenClaim := { program := "ytcggbkocpahkdaa", sum := "d251b22a481dbd3ce798c4e4b5809f271a76b8c1e286215e94a4840d87b5d41b", func := "etalon/etalonlaw05.PolarSamples", spec := "polarSamples", inPlace := ["math.archTrunc", "math.Float64bits", "math.Float64frombits", "math.sqrt"], apart := false }
def PolarSamplesSaid : Prop := polarSamplesRow.holds Try.pinned (OpenSpec.ofChange polarSamplesSpec)

/-- ITS FALSE NEIGHBOUR: 'it returns false'. Refute it at one input. -/
def polarSamplesWrong : ChangeSpec := { name := "polarSamples", fn := fun _ => fun
  | [d] => { results := [.lit (.bool false)], args := [d] }
  | _ => none }
def PolarSamplesWrongFalsely : Prop := polarSamplesRow.holds Try.pinned (OpenSpec.ofChange polarSamplesWrong)

/-- 'etalontop.TopPhysicalWitness': WHATEVER THE INPUT: true; the input reads as it did. -/
def topPhysicalWitnessSpec : ChangeSpec := { name := "topPhysicalWitness", fn := fun _ => fun
  | [d1, d2, d3] => { results := [.lit (.bool true)], args := [d1, d2, d3] }
  | _ => none }
def topPhysicalWitnessRow : OpenClaim := { program := "ytcggbkocpahkdaa", sum := "d251b22a481dbd3ce798c4e4b5809f271a76b8c1e286215e94a4840d87b5d41b", func := "etalon/etalontop.TopPhysicalWitness", spec := "topPhysicalWitness", inPlace := ["math.archTrunc", "math.Float64bits", "math.Float64frombits", "math.sqrt", "math/bits.Sub64", "math/bits.Add64"], apart := false }
def TopPhysicalWitnessSaid : Prop := topPhysicalWitnessRow.holds Try.pinned (OpenSpec.ofChange topPhysicalWitnessSpec)

/-- ITS FALSE NEIGHBOUR: 'it returns false'. Refute it at one input. -/
def topPhysicalWitnessWrong : ChangeSpec := { name := "topPhysicalWitness", fn := fun _ => fun
  | [d1, d2, d3] => { results := [.lit (.bool false)], args := [d1, d2, d3] }
  | _ => none }
def TopPhysicalWitnessWrongFalsely : Prop := topPhysicalWitnessRow.holds Try.pinned (OpenSpec.ofChange topPhysicalWitnessWrong)

/- THE SECOND FORM. 'bulk': how many values and letters a reading holds, each counted each time it is reached (what is shared counts as often as it is met; a slice's spare places count too). A statement '..UptoSaid' is the law's where the arguments, and the package variables that the reading takes, are together of bulk at most 1048576: NARROWER than '..Said'. Prove '..Said' where nothing that the law and all that it calls make is longer than what came in: it says more and counts as full. Else prove '..UptoSaid'. A law counts once. -/
mutual
def uptoBulk {H : Type} : DataW H → Nat
  | .lit (.string bytes) => bytes.length + 1
  | .lit _ => 1
  | .nil => 1
  | .ptr d => uptoBulk d + 1
  | .slice elems spare => uptoBulkAll elems + uptoBulkAll spare + 1
  | .agg parts => uptoBulkAll parts + 1
  | .iface _ d => uptoBulk d + 1
  | .map entries => uptoBulkEntries entries + 1
  | .held _ => 1
def uptoBulkAll {H : Type} : List (DataW H) → Nat
  | [] => 0
  | d :: r => uptoBulk d + uptoBulkAll r
def uptoBulkEntries {H : Type} : List (Lit × DataW H) → Nat
  | [] => 0
  | x :: r => uptoBulkEntry x + uptoBulkEntries r
def uptoBulkEntry {H : Type} : Lit × DataW H → Nat
  | (.string bytes, d) => bytes.length + uptoBulk d + 1
  | (_, d) => uptoBulk d + 1
 end
def uptoSmall : (H : Type) → List (DataW H) → Bool := fun _ ds => decide (uptoBulkAll ds ≤ 1048576)
def OpenSpec.upto (s : _root_.Go.ChangeSpec) : _root_.Go.OpenSpec := { _root_.Go.OpenSpec.ofChange s with cond := some uptoSmall }

/-- 'etalonlaw05.PolarWitnesses', WHERE WHAT IT READS IS OF BULK AT MOST 1048576: true; the input reads as it did. -/
def polarWitnessesUptoRow : OpenClaim := { program := "ytcggbkocpahkdaa", sum := "d251b22a481dbd3ce798c4e4b5809f271a76b8c1e286215e94a4840d87b5d41b", func := "etalon/etalonlaw05.PolarWitnesses", spec := "polarWitnesses", inPlace := ["math.archTrunc", "math.Float64bits", "math.Float64frombits"], apart := false, narrowed := true }
def PolarWitnessesUptoSaid : Prop := polarWitnessesUptoRow.holds Try.pinned (OpenSpec.upto polarWitnessesSpec)

/-- 'etalonlaw05.PolarProducts', WHERE WHAT IT READS IS OF BULK AT MOST 1048576: true; the input reads as it did. -/
def polarProductsUptoRow : OpenClaim := { program := "ytcggbkocpahkdaa", sum := "d251b22a481dbd3ce798c4e4b5809f271a76b8c1e286215e94a4840d87b5d41b", func := "etalon/etalonlaw05.PolarProducts", spec := "polarProducts", inPlace := ["math.archTrunc", "math.Float64bits", "math.Float64frombits"], apart := false, narrowed := true }
def PolarProductsUptoSaid : Prop := polarProductsUptoRow.holds Try.pinned (OpenSpec.upto polarProductsSpec)

/-- 'etalonlaw05.PolarWaves', WHERE WHAT IT READS IS OF BULK AT MOST 1048576: true; the input reads as it did. -/
def polarWavesUptoRow : OpenClaim := { program := "ytcggbkocpahkdaa", sum := "d251b22a481dbd3ce798c4e4b5809f271a76b8c1e286215e94a4840d87b5d41b", func := "etalon/etalonlaw05.PolarWaves", spec := "polarWaves", inPlace := ["math.archTrunc", "math.Float64bits", "math.Float64frombits"], apart := false, narrowed := true }
def PolarWavesUptoSaid : Prop := polarWavesUptoRow.holds Try.pinned (OpenSpec.upto polarWavesSpec)

/-- 'etalonlaw05.PolarPlates', WHERE WHAT IT READS IS OF BULK AT MOST 1048576: true; the input reads as it did. -/
def polarPlatesUptoRow : OpenClaim := { program := "ytcggbkocpahkdaa", sum := "d251b22a481dbd3ce798c4e4b5809f271a76b8c1e286215e94a4840d87b5d41b", func := "etalon/etalonlaw05.PolarPlates", spec := "polarPlates", inPlace := ["math.archTrunc", "math.Float64bits", "math.Float64frombits"], apart := false, narrowed := true }
def PolarPlatesUptoSaid : Prop := polarPlatesUptoRow.holds Try.pinned (OpenSpec.upto polarPlatesSpec)

/-- 'etalonlaw05.PolarTurns', WHERE WHAT IT READS IS OF BULK AT MOST 1048576: true; the input reads as it did. -/
def polarTurnsUptoRow : OpenClaim := { program := "ytcggbkocpahkdaa", sum := "d251b22a481dbd3ce798c4e4b5809f271a76b8c1e286215e94a4840d87b5d41b", func := "etalon/etalonlaw05.PolarTurns", spec := "polarTurns", inPlace := ["math.archTrunc", "math.Float64bits", "math.Float64frombits"], apart := false, narrowed := true }
def PolarTurnsUptoSaid : Prop := polarTurnsUptoRow.holds Try.pinned (OpenSpec.upto polarTurnsSpec)

/-- 'etalonlaw05.PolarBack', WHERE WHAT IT READS IS OF BULK AT MOST 1048576: true; the input reads as it did. -/
def polarBackUptoRow : OpenClaim := { program := "ytcggbkocpahkdaa", sum := "d251b22a481dbd3ce798c4e4b5809f271a76b8c1e286215e94a4840d87b5d41b", func := "etalon/etalonlaw05.PolarBack", spec := "polarBack", inPlace := ["math.archTrunc", "math.Float64bits", "math.Float64frombits"], apart := false, narrowed := true }
def PolarBackUptoSaid : Prop := polarBackUptoRow.holds Try.pinned (OpenSpec.upto polarBackSpec)

/-- 'etalonlaw05.PolarStokes', WHERE WHAT IT READS IS OF BULK AT MOST 1048576: true; the input reads as it did. -/
def polarStokesUptoRow : OpenClaim := { program := "ytcggbkocpahkdaa", sum := "d251b22a481dbd3ce798c4e4b5809f271a76b8c1e286215e94a4840d87b5d41b", func := "etalon/etalonlaw05.PolarStokes", spec := "polarStokes", inPlace := ["math.archTrunc", "math.Float64bits", "math.Float64frombits"], apart := false, narrowed := true }
def PolarStokesUptoSaid : Prop := polarStokesUptoRow.holds Try.pinned (OpenSpec.upto polarStokesSpec)

/-- 'etalonlaw05.PolarCoherencies', WHERE WHAT IT READS IS OF BULK AT MOST 1048576: true; the input reads as it did. -/
def polarCoherenciesUptoRow : OpenClaim := { program := "ytcggbkocpahkdaa", sum := "d251b22a481dbd3ce798c4e4b5809f271a76b8c1e286215e94a4840d87b5d41b", func := "etalon/etalonlaw05.PolarCoherencies", spec := "polarCoherencies", inPlace := ["math.archTrunc", "math.Float64bits", "math.Float64frombits"], apart := false, narrowed := true }
def PolarCoherenciesUptoSaid : Prop := polarCoherenciesUptoRow.holds Try.pinned (OpenSpec.upto polarCoherenciesSpec)

/-- 'etalonlaw05.PolarPassive', WHERE WHAT IT READS IS OF BULK AT MOST 1048576: true; the input reads as it did. -/
def polarPassiveUptoRow : OpenClaim := { program := "ytcggbkocpahkdaa", sum := "d251b22a481dbd3ce798c4e4b5809f271a76b8c1e286215e94a4840d87b5d41b", func := "etalon/etalonlaw05.PolarPassive", spec := "polarPassive", inPlace := ["math.archTrunc", "math.Float64bits", "math.Float64frombits"], apart := false, narrowed := true }
def PolarPassiveUptoSaid : Prop := polarPassiveUptoRow.holds Try.pinned (OpenSpec.upto polarPassiveSpec)

/-- 'etalontop.TopJonesIntoMueller', WHERE WHAT IT READS IS OF BULK AT MOST 1048576: true; the input reads as it did. -/
def topJonesIntoMuellerUptoRow : OpenClaim := { program := "ytcggbkocpahkdaa", sum := "d251b22a481dbd3ce798c4e4b5809f271a76b8c1e286215e94a4840d87b5d41b", func := "etalon/etalontop.TopJonesIntoMueller", spec := "topJonesIntoMueller", inPlace := ["math.archTrunc", "math.Float64bits", "math.Float64frombits"], apart := false, narrowed := true }
def TopJonesIntoMuellerUptoSaid : Prop := topJonesIntoMuellerUptoRow.holds Try.pinned (OpenSpec.upto topJonesIntoMuellerSpec)

/-- 'etalonlaw05.PolarMuellers', WHERE WHAT IT READS IS OF BULK AT MOST 1048576: true; the input reads as it did. -/
def polarMuellersUptoRow : OpenClaim := { program := "ytcggbkocpahkdaa", sum := "d251b22a481dbd3ce798c4e4b5809f271a76b8c1e286215e94a4840d87b5d41b", func := "etalon/etalonlaw05.PolarMuellers", spec := "polarMuellers", inPlace := ["math.archTrunc", "math.Float64bits", "math.Float64frombits"], apart := false, narrowed := true }
def PolarMuellersUptoSaid : Prop := polarMuellersUptoRow.holds Try.pinned (OpenSpec.upto polarMuellersSpec)

/-- 'etalonlaw05.PolarPure', WHERE WHAT IT READS IS OF BULK AT MOST 1048576: true; the input reads as it did. -/
def polarPureUptoRow : OpenClaim := { program := "ytcggbkocpahkdaa", sum := "d251b22a481dbd3ce798c4e4b5809f271a76b8c1e286215e94a4840d87b5d41b", func := "etalon/etalonlaw05.PolarPure", spec := "polarPure", inPlace := ["math.archTrunc", "math.Float64bits", "math.Float64frombits"], apart := false, narrowed := true }
def PolarPureUptoSaid : Prop := polarPureUptoRow.holds Try.pinned (OpenSpec.upto polarPureSpec)

/-- 'etalonlaw05.PolarNever', WHERE WHAT IT READS IS OF BULK AT MOST 1048576: true; the input reads as it did. -/
def polarNeverUptoRow : OpenClaim := { program := "ytcggbkocpahkdaa", sum := "d251b22a481dbd3ce798c4e4b5809f271a76b8c1e286215e94a4840d87b5d41b", func := "etalon/etalonlaw05.PolarNever", spec := "polarNever", inPlace := ["math.archTrunc", "math.Float64bits", "math.Float64frombits", "math/bits.Sub64", "math/bits.Add64"], apart := false, narrowed := true }
def PolarNeverUptoSaid : Prop := polarNeverUptoRow.holds Try.pinned (OpenSpec.upto polarNeverSpec)

/-- 'etalonlaw05.PolarBothWays', WHERE WHAT IT READS IS OF BULK AT MOST 1048576: true; the input reads as it did. -/
def polarBothWaysUptoRow : OpenClaim := { program := "ytcggbkocpahkdaa", sum := "d251b22a481dbd3ce798c4e4b5809f271a76b8c1e286215e94a4840d87b5d41b", func := "etalon/etalonlaw05.PolarBothWays", spec := "polarBothWays", inPlace := ["math.archTrunc", "math.Float64bits", "math.Float64frombits"], apart := false, narrowed := true }
def PolarBothWaysUptoSaid : Prop := polarBothWaysUptoRow.holds Try.pinned (OpenSpec.upto polarBothWaysSpec)

/-- 'etalonlaw05.PolarSquares', WHERE WHAT IT READS IS OF BULK AT MOST 1048576: true; the input reads as it did. -/
def polarSquaresUptoRow : OpenClaim := { program := "ytcggbkocpahkdaa", sum := "d251b22a481dbd3ce798c4e4b5809f271a76b8c1e286215e94a4840d87b5d41b", func := "etalon/etalonlaw05.PolarSquares", spec := "polarSquares", inPlace := ["math.archTrunc", "math.Float64bits", "math.Float64frombits", "math/bits.Sub64", "math/bits.Add64"], apart := false, narrowed := true }
def PolarSquaresUptoSaid : Prop := polarSquaresUptoRow.holds Try.pinned (OpenSpec.upto polarSquaresSpec)

/-- 'etalonlaw05.PolarSamples', WHERE WHAT IT READS IS OF BULK AT MOST 1048576: true; the input reads as it did. -/
def polarSamplesUptoRow : OpenClaim := { program := "ytcggbkocpahkdaa", sum := "d251b22a481dbd3ce798c4e4b5809f271a76b8c1e286215e94a4840d87b5d41b", func := "etalon/etalonlaw05.PolarSamples", spec := "polarSamples", inPlace := ["math.archTrunc", "math.Float64bits", "math.Float64frombits", "math.sqrt"], apart := false, narrowed := true }
def PolarSamplesUptoSaid : Prop := polarSamplesUptoRow.holds Try.pinned (OpenSpec.upto polarSamplesSpec)

/-- 'etalontop.TopPhysicalWitness', WHERE WHAT IT READS IS OF BULK AT MOST 1048576: true; the input reads as it did. -/
def topPhysicalWitnessUptoRow : OpenClaim := { program := "ytcggbkocpahkdaa", sum := "d251b22a481dbd3ce798c4e4b5809f271a76b8c1e286215e94a4840d87b5d41b", func := "etalon/etalontop.TopPhysicalWitness", spec := "topPhysicalWitness", inPlace := ["math.archTrunc", "math.Float64bits", "math.Float64frombits", "math.sqrt", "math/bits.Sub64", "math/bits.Add64"], apart := false, narrowed := true }
def TopPhysicalWitnessUptoSaid : Prop := topPhysicalWitnessUptoRow.holds Try.pinned (OpenSpec.upto topPhysicalWitnessSpec)

end Rows
end Go.Proofs.Ytcggbkocpahkdaa
