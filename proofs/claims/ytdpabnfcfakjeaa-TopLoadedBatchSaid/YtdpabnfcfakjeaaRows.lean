/-
  No cell of these rows narrows 'for every input' (looked for: loops, veiled, ifaces, maps, wideKeys, modest, calm, conditions, laid).
  DERIVED. THE GIVEN ROWS OF THIS SEAT. 15 by the template 'for every input the law returns true; each argument reads behind the call as it read before'; 0 by the template 'total and deterministic' (their statements: YtdpabnfcfakjeaaTotals.lean).
  GIVEN WITH THE SEED: the statements are not yours to turn. If you find one false, say at which input.
  Laid BY PROGRAM, IN A SANDBOX (cutbox-rows.mjs): the forced cells as the released guide's own fill.sh prints them over the translation 791e0db450d426f9… (all of the seat's roots in one cut). By AI agents, Wed Nov 11 2026. No macro, syntax, notation, axiom, sorry.
-/
import Derived.Test.YtdpabnfcfakjeaaChecked
import GoSem.Claim
import GoSem.ClaimJoined
import GoSem.ClaimMapViews
import Derived.JoinedTies
import Derived.KernelRfl
namespace Go.Proofs.Ytdpabnfcfakjeaa
/- THE CELL 'sum', in the pinned program and in every row, IS THE sha256 OF THE DUMP (.gsa) THAT YtdpabnfcfakjeaaProg.lean LOADS. Nothing in Lean hashes anything: it is a label: what it is worth is what the hold of that sum in a sandbox is worth. -/
noncomputable def Try.pinned : Pinned := { name := "ytdpabnfcfakjeaa", sum := "791e0db450d426f98fcfc22c6d3810e31edf016636f601a29752d2cb297a592d", checked := Try.checked }
namespace Rows
def none {H : Type} : Left H := { results := [], args := [] }

/-- 'etalonlaw09.RackSpreads': WHATEVER THE INPUT: true; the input reads as it did. -/
def rackSpreadsSpec : ChangeSpec := { name := "rackSpreads", fn := fun _ => fun
  | [d] => { results := [.lit (.bool true)], args := [d] }
  | _ => none }
def rackSpreadsRow : OpenClaim := { program := "ytdpabnfcfakjeaa", sum := "791e0db450d426f98fcfc22c6d3810e31edf016636f601a29752d2cb297a592d", func := "etalon/etalonlaw09.RackSpreads", spec := "rackSpreads", unfollowed := true, recurses := true, apart := false }
def RackSpreadsSaid : Prop := rackSpreadsRow.holds Try.pinned (OpenSpec.ofChange rackSpreadsSpec)

/-- ITS FALSE NEIGHBOUR: 'it returns false'. Refute it at one input. -/
def rackSpreadsWrong : ChangeSpec := { name := "rackSpreads", fn := fun _ => fun
  | [d] => { results := [.lit (.bool false)], args := [d] }
  | _ => none }
def RackSpreadsWrongFalsely : Prop := rackSpreadsRow.holds Try.pinned (OpenSpec.ofChange rackSpreadsWrong)

/-- 'etalonlaw09.RackBestLoad': WHATEVER THE INPUT: true; the input reads as it did. -/
def rackBestLoadSpec : ChangeSpec := { name := "rackBestLoad", fn := fun _ => fun
  | [d] => { results := [.lit (.bool true)], args := [d] }
  | _ => none }
def rackBestLoadRow : OpenClaim := { program := "ytdpabnfcfakjeaa", sum := "791e0db450d426f98fcfc22c6d3810e31edf016636f601a29752d2cb297a592d", func := "etalon/etalonlaw09.RackBestLoad", spec := "rackBestLoad", unfollowed := true, recurses := true, apart := false }
def RackBestLoadSaid : Prop := rackBestLoadRow.holds Try.pinned (OpenSpec.ofChange rackBestLoadSpec)

/-- ITS FALSE NEIGHBOUR: 'it returns false'. Refute it at one input. -/
def rackBestLoadWrong : ChangeSpec := { name := "rackBestLoad", fn := fun _ => fun
  | [d] => { results := [.lit (.bool false)], args := [d] }
  | _ => none }
def RackBestLoadWrongFalsely : Prop := rackBestLoadRow.holds Try.pinned (OpenSpec.ofChange rackBestLoadWrong)

/-- 'etalontop.TopUniformWithin': WHATEVER THE INPUT: true; the input reads as it did. -/
def topUniformWithinSpec : ChangeSpec := { name := "topUniformWithin", fn := fun _ => fun
  | [d1, d2, d3] => { results := [.lit (.bool true)], args := [d1, d2, d3] }
  | _ => none }
def topUniformWithinRow : OpenClaim := { program := "ytdpabnfcfakjeaa", sum := "791e0db450d426f98fcfc22c6d3810e31edf016636f601a29752d2cb297a592d", func := "etalon/etalontop.TopUniformWithin", spec := "topUniformWithin", unfollowed := true, recurses := true, apart := false }
def TopUniformWithinSaid : Prop := topUniformWithinRow.holds Try.pinned (OpenSpec.ofChange topUniformWithinSpec)

/-- ITS FALSE NEIGHBOUR: 'it returns false'. Refute it at one input. -/
def topUniformWithinWrong : ChangeSpec := { name := "topUniformWithin", fn := fun _ => fun
  | [d1, d2, d3] => { results := [.lit (.bool false)], args := [d1, d2, d3] }
  | _ => none }
def TopUniformWithinWrongFalsely : Prop := topUniformWithinRow.holds Try.pinned (OpenSpec.ofChange topUniformWithinWrong)

/-- 'etalonlaw09.RackWishes': WHATEVER THE INPUT: true; the input reads as it did. -/
def rackWishesSpec : ChangeSpec := { name := "rackWishes", fn := fun _ => fun
  | [d1, d2, d3] => { results := [.lit (.bool true)], args := [d1, d2, d3] }
  | _ => none }
def rackWishesRow : OpenClaim := { program := "ytdpabnfcfakjeaa", sum := "791e0db450d426f98fcfc22c6d3810e31edf016636f601a29752d2cb297a592d", func := "etalon/etalonlaw09.RackWishes", spec := "rackWishes", unfollowed := true, recurses := true, apart := false }
def RackWishesSaid : Prop := rackWishesRow.holds Try.pinned (OpenSpec.ofChange rackWishesSpec)

/-- ITS FALSE NEIGHBOUR: 'it returns false'. Refute it at one input. -/
def rackWishesWrong : ChangeSpec := { name := "rackWishes", fn := fun _ => fun
  | [d1, d2, d3] => { results := [.lit (.bool false)], args := [d1, d2, d3] }
  | _ => none }
def RackWishesWrongFalsely : Prop := rackWishesRow.holds Try.pinned (OpenSpec.ofChange rackWishesWrong)

/-- 'etalonlaw09.RackChecks': WHATEVER THE INPUT: true; the input reads as it did. -/
def rackChecksSpec : ChangeSpec := { name := "rackChecks", fn := fun _ => fun
  | [d1, d2, d3] => { results := [.lit (.bool true)], args := [d1, d2, d3] }
  | _ => none }
def rackChecksRow : OpenClaim := { program := "ytdpabnfcfakjeaa", sum := "791e0db450d426f98fcfc22c6d3810e31edf016636f601a29752d2cb297a592d", func := "etalon/etalonlaw09.RackChecks", spec := "rackChecks", unfollowed := true, recurses := true, apart := false }
def RackChecksSaid : Prop := rackChecksRow.holds Try.pinned (OpenSpec.ofChange rackChecksSpec)

/-- ITS FALSE NEIGHBOUR: 'it returns false'. Refute it at one input. -/
def rackChecksWrong : ChangeSpec := { name := "rackChecks", fn := fun _ => fun
  | [d1, d2, d3] => { results := [.lit (.bool false)], args := [d1, d2, d3] }
  | _ => none }
def RackChecksWrongFalsely : Prop := rackChecksRow.holds Try.pinned (OpenSpec.ofChange rackChecksWrong)

/-- 'etalonlaw09.RackTables': WHATEVER THE INPUT: true; the input reads as it did. -/
def rackTablesSpec : ChangeSpec := { name := "rackTables", fn := fun _ => fun
  | [d1, d2, d3] => { results := [.lit (.bool true)], args := [d1, d2, d3] }
  | _ => none }
def rackTablesRow : OpenClaim := { program := "ytdpabnfcfakjeaa", sum := "791e0db450d426f98fcfc22c6d3810e31edf016636f601a29752d2cb297a592d", func := "etalon/etalonlaw09.RackTables", spec := "rackTables", unfollowed := true, recurses := true, apart := false }
def RackTablesSaid : Prop := rackTablesRow.holds Try.pinned (OpenSpec.ofChange rackTablesSpec)

/-- ITS FALSE NEIGHBOUR: 'it returns false'. Refute it at one input. -/
def rackTablesWrong : ChangeSpec := { name := "rackTables", fn := fun _ => fun
  | [d1, d2, d3] => { results := [.lit (.bool false)], args := [d1, d2, d3] }
  | _ => none }
def RackTablesWrongFalsely : Prop := rackTablesRow.holds Try.pinned (OpenSpec.ofChange rackTablesWrong)

/-- 'etalonlaw09.RackPlaces': WHATEVER THE INPUT: true; the input reads as it did. -/
def rackPlacesSpec : ChangeSpec := { name := "rackPlaces", fn := fun _ => fun
  | [d1, d2, d3] => { results := [.lit (.bool true)], args := [d1, d2, d3] }
  | _ => none }
def rackPlacesRow : OpenClaim := { program := "ytdpabnfcfakjeaa", sum := "791e0db450d426f98fcfc22c6d3810e31edf016636f601a29752d2cb297a592d", func := "etalon/etalonlaw09.RackPlaces", spec := "rackPlaces", unfollowed := true, recurses := true, apart := false }
def RackPlacesSaid : Prop := rackPlacesRow.holds Try.pinned (OpenSpec.ofChange rackPlacesSpec)

/-- ITS FALSE NEIGHBOUR: 'it returns false'. Refute it at one input. -/
def rackPlacesWrong : ChangeSpec := { name := "rackPlaces", fn := fun _ => fun
  | [d1, d2, d3] => { results := [.lit (.bool false)], args := [d1, d2, d3] }
  | _ => none }
def RackPlacesWrongFalsely : Prop := rackPlacesRow.holds Try.pinned (OpenSpec.ofChange rackPlacesWrong)

/-- 'etalonlaw09.RackAlike': WHATEVER THE INPUT: true; the input reads as it did. -/
def rackAlikeSpec : ChangeSpec := { name := "rackAlike", fn := fun _ => fun
  | [d1, d2, d3] => { results := [.lit (.bool true)], args := [d1, d2, d3] }
  | _ => none }
def rackAlikeRow : OpenClaim := { program := "ytdpabnfcfakjeaa", sum := "791e0db450d426f98fcfc22c6d3810e31edf016636f601a29752d2cb297a592d", func := "etalon/etalonlaw09.RackAlike", spec := "rackAlike", unfollowed := true, recurses := true, apart := false }
def RackAlikeSaid : Prop := rackAlikeRow.holds Try.pinned (OpenSpec.ofChange rackAlikeSpec)

/-- ITS FALSE NEIGHBOUR: 'it returns false'. Refute it at one input. -/
def rackAlikeWrong : ChangeSpec := { name := "rackAlike", fn := fun _ => fun
  | [d1, d2, d3] => { results := [.lit (.bool false)], args := [d1, d2, d3] }
  | _ => none }
def RackAlikeWrongFalsely : Prop := rackAlikeRow.holds Try.pinned (OpenSpec.ofChange rackAlikeWrong)

/-- 'etalonlaw09.RackMasks': WHATEVER THE INPUT: true; the input reads as it did. -/
def rackMasksSpec : ChangeSpec := { name := "rackMasks", fn := fun _ => fun
  | [d1, d2, d3] => { results := [.lit (.bool true)], args := [d1, d2, d3] }
  | _ => none }
def rackMasksRow : OpenClaim := { program := "ytdpabnfcfakjeaa", sum := "791e0db450d426f98fcfc22c6d3810e31edf016636f601a29752d2cb297a592d", func := "etalon/etalonlaw09.RackMasks", spec := "rackMasks", unfollowed := true, recurses := true, apart := false }
def RackMasksSaid : Prop := rackMasksRow.holds Try.pinned (OpenSpec.ofChange rackMasksSpec)

/-- ITS FALSE NEIGHBOUR: 'it returns false'. Refute it at one input. -/
def rackMasksWrong : ChangeSpec := { name := "rackMasks", fn := fun _ => fun
  | [d1, d2, d3] => { results := [.lit (.bool false)], args := [d1, d2, d3] }
  | _ => none }
def RackMasksWrongFalsely : Prop := rackMasksRow.holds Try.pinned (OpenSpec.ofChange rackMasksWrong)

/-- 'etalonlaw09.RackThick': WHATEVER THE INPUT: true; the input reads as it did. -/
def rackThickSpec : ChangeSpec := { name := "rackThick", fn := fun _ => fun
  | [d1, d2, d3] => { results := [.lit (.bool true)], args := [d1, d2, d3] }
  | _ => none }
def rackThickRow : OpenClaim := { program := "ytdpabnfcfakjeaa", sum := "791e0db450d426f98fcfc22c6d3810e31edf016636f601a29752d2cb297a592d", func := "etalon/etalonlaw09.RackThick", spec := "rackThick", unfollowed := true, recurses := true, apart := false }
def RackThickSaid : Prop := rackThickRow.holds Try.pinned (OpenSpec.ofChange rackThickSpec)

/-- ITS FALSE NEIGHBOUR: 'it returns false'. Refute it at one input. -/
def rackThickWrong : ChangeSpec := { name := "rackThick", fn := fun _ => fun
  | [d1, d2, d3] => { results := [.lit (.bool false)], args := [d1, d2, d3] }
  | _ => none }
def RackThickWrongFalsely : Prop := rackThickRow.holds Try.pinned (OpenSpec.ofChange rackThickWrong)

/-- 'etalonlaw09.RackLoads': WHATEVER THE INPUT: true; the input reads as it did. -/
def rackLoadsSpec : ChangeSpec := { name := "rackLoads", fn := fun _ => fun
  | [d1, d2] => { results := [.lit (.bool true)], args := [d1, d2] }
  | _ => none }
def rackLoadsRow : OpenClaim := { program := "ytdpabnfcfakjeaa", sum := "791e0db450d426f98fcfc22c6d3810e31edf016636f601a29752d2cb297a592d", func := "etalon/etalonlaw09.RackLoads", spec := "rackLoads", unfollowed := true, recurses := true, apart := false }
def RackLoadsSaid : Prop := rackLoadsRow.holds Try.pinned (OpenSpec.ofChange rackLoadsSpec)

/-- ITS FALSE NEIGHBOUR: 'it returns false'. Refute it at one input. -/
def rackLoadsWrong : ChangeSpec := { name := "rackLoads", fn := fun _ => fun
  | [d1, d2] => { results := [.lit (.bool false)], args := [d1, d2] }
  | _ => none }
def RackLoadsWrongFalsely : Prop := rackLoadsRow.holds Try.pinned (OpenSpec.ofChange rackLoadsWrong)

/-- 'etalonlaw09.RackHistories': WHATEVER THE INPUT: true; the input reads as it did. -/
def rackHistoriesSpec : ChangeSpec := { name := "rackHistories", fn := fun _ => fun
  | [d1, d2, d3] => { results := [.lit (.bool true)], args := [d1, d2, d3] }
  | _ => none }
def rackHistoriesRow : OpenClaim := { program := "ytdpabnfcfakjeaa", sum := "791e0db450d426f98fcfc22c6d3810e31edf016636f601a29752d2cb297a592d", func := "etalon/etalonlaw09.RackHistories", spec := "rackHistories", unfollowed := true, recurses := true, apart := false }
def RackHistoriesSaid : Prop := rackHistoriesRow.holds Try.pinned (OpenSpec.ofChange rackHistoriesSpec)

/-- ITS FALSE NEIGHBOUR: 'it returns false'. Refute it at one input. -/
def rackHistoriesWrong : ChangeSpec := { name := "rackHistories", fn := fun _ => fun
  | [d1, d2, d3] => { results := [.lit (.bool false)], args := [d1, d2, d3] }
  | _ => none }
def RackHistoriesWrongFalsely : Prop := rackHistoriesRow.holds Try.pinned (OpenSpec.ofChange rackHistoriesWrong)

/-- 'etalonlaw09.RackSlack': WHATEVER THE INPUT: true; the input reads as it did. -/
def rackSlackSpec : ChangeSpec := { name := "rackSlack", fn := fun _ => fun
  | [d1, d2] => { results := [.lit (.bool true)], args := [d1, d2] }
  | _ => none }
def rackSlackRow : OpenClaim := { program := "ytdpabnfcfakjeaa", sum := "791e0db450d426f98fcfc22c6d3810e31edf016636f601a29752d2cb297a592d", func := "etalon/etalonlaw09.RackSlack", spec := "rackSlack", unfollowed := true, recurses := true, apart := false }
def RackSlackSaid : Prop := rackSlackRow.holds Try.pinned (OpenSpec.ofChange rackSlackSpec)

/-- ITS FALSE NEIGHBOUR: 'it returns false'. Refute it at one input. -/
def rackSlackWrong : ChangeSpec := { name := "rackSlack", fn := fun _ => fun
  | [d1, d2] => { results := [.lit (.bool false)], args := [d1, d2] }
  | _ => none }
def RackSlackWrongFalsely : Prop := rackSlackRow.holds Try.pinned (OpenSpec.ofChange rackSlackWrong)

/-- 'etalonlaw09.RackBestMask': WHATEVER THE INPUT: true; the input reads as it did. -/
def rackBestMaskSpec : ChangeSpec := { name := "rackBestMask", fn := fun _ => fun
  | [d] => { results := [.lit (.bool true)], args := [d] }
  | _ => none }
def rackBestMaskRow : OpenClaim := { program := "ytdpabnfcfakjeaa", sum := "791e0db450d426f98fcfc22c6d3810e31edf016636f601a29752d2cb297a592d", func := "etalon/etalonlaw09.RackBestMask", spec := "rackBestMask", unfollowed := true, recurses := true, apart := false }
def RackBestMaskSaid : Prop := rackBestMaskRow.holds Try.pinned (OpenSpec.ofChange rackBestMaskSpec)

/-- ITS FALSE NEIGHBOUR: 'it returns false'. Refute it at one input. -/
def rackBestMaskWrong : ChangeSpec := { name := "rackBestMask", fn := fun _ => fun
  | [d] => { results := [.lit (.bool false)], args := [d] }
  | _ => none }
def RackBestMaskWrongFalsely : Prop := rackBestMaskRow.holds Try.pinned (OpenSpec.ofChange rackBestMaskWrong)

/-- 'etalontop.TopLoadedBatch': WHATEVER THE INPUT: true; the input reads as it did. -/
def topLoadedBatchSpec : ChangeSpec := { name := "topLoadedBatch", fn := fun _ => fun
  | [d1, d2] => { results := [.lit (.bool true)], args := [d1, d2] }
  | _ => none }
def topLoadedBatchRow : OpenClaim := { program := "ytdpabnfcfakjeaa", sum := "791e0db450d426f98fcfc22c6d3810e31edf016636f601a29752d2cb297a592d", func := "etalon/etalontop.TopLoadedBatch", spec := "topLoadedBatch", unfollowed := true, recurses := true, apart := false }
def TopLoadedBatchSaid : Prop := topLoadedBatchRow.holds Try.pinned (OpenSpec.ofChange topLoadedBatchSpec)

/-- ITS FALSE NEIGHBOUR: 'it returns false'. Refute it at one input. -/
def topLoadedBatchWrong : ChangeSpec := { name := "topLoadedBatch", fn := fun _ => fun
  | [d1, d2] => { results := [.lit (.bool false)], args := [d1, d2] }
  | _ => none }
def TopLoadedBatchWrongFalsely : Prop := topLoadedBatchRow.holds Try.pinned (OpenSpec.ofChange topLoadedBatchWrong)

/- THE SECOND FORM. 'bulk': how many values and letters a reading holds, each counted each time it is reached (what is shared counts as often as it is met; a slice's spare places count too). A statement '..UptoSaid' is the law's where the arguments, and the package variables that the reading takes, are together of bulk at most 1048576: NARROWER than '..Said'. Prove '..Said' where nothing that the law and all that it calls make is longer than what came in: it says more and counts as full. Else prove '..UptoSaid'. A law counts once. -/
mutual
def uptoBulk {H : Type} : DataW H → Nat
  | .lit (.string bytes) => bytes.length + 1
  | .lit _ => 1
  | .nil => 1
  | .ptr d => uptoBulk d + 1
  | .slice elems spare => uptoBulkAll elems + uptoBulkAll spare + 1
  | .agg parts => uptoBulkAll parts + 1
  | .iface _ d => uptoBulk d + 1
  | .map entries => uptoBulkEntries entries + 1
  | .held _ => 1
def uptoBulkAll {H : Type} : List (DataW H) → Nat
  | [] => 0
  | d :: r => uptoBulk d + uptoBulkAll r
def uptoBulkEntries {H : Type} : List (Lit × DataW H) → Nat
  | [] => 0
  | x :: r => uptoBulkEntry x + uptoBulkEntries r
def uptoBulkEntry {H : Type} : Lit × DataW H → Nat
  | (.string bytes, d) => bytes.length + uptoBulk d + 1
  | (_, d) => uptoBulk d + 1
 end
def uptoSmall : (H : Type) → List (DataW H) → Bool := fun _ ds => decide (uptoBulkAll ds ≤ 1048576)
def OpenSpec.upto (s : _root_.Go.ChangeSpec) : _root_.Go.OpenSpec := { _root_.Go.OpenSpec.ofChange s with cond := some uptoSmall }

/-- 'etalonlaw09.RackSpreads', WHERE WHAT IT READS IS OF BULK AT MOST 1048576: true; the input reads as it did. -/
def rackSpreadsUptoRow : OpenClaim := { program := "ytdpabnfcfakjeaa", sum := "791e0db450d426f98fcfc22c6d3810e31edf016636f601a29752d2cb297a592d", func := "etalon/etalonlaw09.RackSpreads", spec := "rackSpreads", unfollowed := true, recurses := true, apart := false, narrowed := true }
def RackSpreadsUptoSaid : Prop := rackSpreadsUptoRow.holds Try.pinned (OpenSpec.upto rackSpreadsSpec)

/-- 'etalonlaw09.RackBestLoad', WHERE WHAT IT READS IS OF BULK AT MOST 1048576: true; the input reads as it did. -/
def rackBestLoadUptoRow : OpenClaim := { program := "ytdpabnfcfakjeaa", sum := "791e0db450d426f98fcfc22c6d3810e31edf016636f601a29752d2cb297a592d", func := "etalon/etalonlaw09.RackBestLoad", spec := "rackBestLoad", unfollowed := true, recurses := true, apart := false, narrowed := true }
def RackBestLoadUptoSaid : Prop := rackBestLoadUptoRow.holds Try.pinned (OpenSpec.upto rackBestLoadSpec)

/-- 'etalontop.TopUniformWithin', WHERE WHAT IT READS IS OF BULK AT MOST 1048576: true; the input reads as it did. -/
def topUniformWithinUptoRow : OpenClaim := { program := "ytdpabnfcfakjeaa", sum := "791e0db450d426f98fcfc22c6d3810e31edf016636f601a29752d2cb297a592d", func := "etalon/etalontop.TopUniformWithin", spec := "topUniformWithin", unfollowed := true, recurses := true, apart := false, narrowed := true }
def TopUniformWithinUptoSaid : Prop := topUniformWithinUptoRow.holds Try.pinned (OpenSpec.upto topUniformWithinSpec)

/-- 'etalonlaw09.RackWishes', WHERE WHAT IT READS IS OF BULK AT MOST 1048576: true; the input reads as it did. -/
def rackWishesUptoRow : OpenClaim := { program := "ytdpabnfcfakjeaa", sum := "791e0db450d426f98fcfc22c6d3810e31edf016636f601a29752d2cb297a592d", func := "etalon/etalonlaw09.RackWishes", spec := "rackWishes", unfollowed := true, recurses := true, apart := false, narrowed := true }
def RackWishesUptoSaid : Prop := rackWishesUptoRow.holds Try.pinned (OpenSpec.upto rackWishesSpec)

/-- 'etalonlaw09.RackChecks', WHERE WHAT IT READS IS OF BULK AT MOST 1048576: true; the input reads as it did. -/
def rackChecksUptoRow : OpenClaim := { program := "ytdpabnfcfakjeaa", sum := "791e0db450d426f98fcfc22c6d3810e31edf016636f601a29752d2cb297a592d", func := "etalon/etalonlaw09.RackChecks", spec := "rackChecks", unfollowed := true, recurses := true, apart := false, narrowed := true }
def RackChecksUptoSaid : Prop := rackChecksUptoRow.holds Try.pinned (OpenSpec.upto rackChecksSpec)

/-- 'etalonlaw09.RackTables', WHERE WHAT IT READS IS OF BULK AT MOST 1048576: true; the input reads as it did. -/
def rackTablesUptoRow : OpenClaim := { program := "ytdpabnfcfakjeaa", sum := "791e0db450d426f98fcfc22c6d3810e31edf016636f601a29752d2cb297a592d", func := "etalon/etalonlaw09.RackTables", spec := "rackTables", unfollowed := true, recurses := true, apart := false, narrowed := true }
def RackTablesUptoSaid : Prop := rackTablesUptoRow.holds Try.pinned (OpenSpec.upto rackTablesSpec)

/-- 'etalonlaw09.RackPlaces', WHERE WHAT IT READS IS OF BULK AT MOST 1048576: true; the input reads as it did. -/
def rackPlacesUptoRow : OpenClaim := { program := "ytdpabnfcfakjeaa", sum := "791e0db450d426f98fcfc22c6d3810e31edf016636f601a29752d2cb297a592d", func := "etalon/etalonlaw09.RackPlaces", spec := "rackPlaces", unfollowed := true, recurses := true, apart := false, narrowed := true }
def RackPlacesUptoSaid : Prop := rackPlacesUptoRow.holds Try.pinned (OpenSpec.upto rackPlacesSpec)

/-- 'etalonlaw09.RackAlike', WHERE WHAT IT READS IS OF BULK AT MOST 1048576: true; the input reads as it did. -/
def rackAlikeUptoRow : OpenClaim := { program := "ytdpabnfcfakjeaa", sum := "791e0db450d426f98fcfc22c6d3810e31edf016636f601a29752d2cb297a592d", func := "etalon/etalonlaw09.RackAlike", spec := "rackAlike", unfollowed := true, recurses := true, apart := false, narrowed := true }
def RackAlikeUptoSaid : Prop := rackAlikeUptoRow.holds Try.pinned (OpenSpec.upto rackAlikeSpec)

/-- 'etalonlaw09.RackMasks', WHERE WHAT IT READS IS OF BULK AT MOST 1048576: true; the input reads as it did. -/
def rackMasksUptoRow : OpenClaim := { program := "ytdpabnfcfakjeaa", sum := "791e0db450d426f98fcfc22c6d3810e31edf016636f601a29752d2cb297a592d", func := "etalon/etalonlaw09.RackMasks", spec := "rackMasks", unfollowed := true, recurses := true, apart := false, narrowed := true }
def RackMasksUptoSaid : Prop := rackMasksUptoRow.holds Try.pinned (OpenSpec.upto rackMasksSpec)

/-- 'etalonlaw09.RackThick', WHERE WHAT IT READS IS OF BULK AT MOST 1048576: true; the input reads as it did. -/
def rackThickUptoRow : OpenClaim := { program := "ytdpabnfcfakjeaa", sum := "791e0db450d426f98fcfc22c6d3810e31edf016636f601a29752d2cb297a592d", func := "etalon/etalonlaw09.RackThick", spec := "rackThick", unfollowed := true, recurses := true, apart := false, narrowed := true }
def RackThickUptoSaid : Prop := rackThickUptoRow.holds Try.pinned (OpenSpec.upto rackThickSpec)

/-- 'etalonlaw09.RackLoads', WHERE WHAT IT READS IS OF BULK AT MOST 1048576: true; the input reads as it did. -/
def rackLoadsUptoRow : OpenClaim := { program := "ytdpabnfcfakjeaa", sum := "791e0db450d426f98fcfc22c6d3810e31edf016636f601a29752d2cb297a592d", func := "etalon/etalonlaw09.RackLoads", spec := "rackLoads", unfollowed := true, recurses := true, apart := false, narrowed := true }
def RackLoadsUptoSaid : Prop := rackLoadsUptoRow.holds Try.pinned (OpenSpec.upto rackLoadsSpec)

/-- 'etalonlaw09.RackHistories', WHERE WHAT IT READS IS OF BULK AT MOST 1048576: true; the input reads as it did. -/
def rackHistoriesUptoRow : OpenClaim := { program := "ytdpabnfcfakjeaa", sum := "791e0db450d426f98fcfc22c6d3810e31edf016636f601a29752d2cb297a592d", func := "etalon/etalonlaw09.RackHistories", spec := "rackHistories", unfollowed := true, recurses := true, apart := false, narrowed := true }
def RackHistoriesUptoSaid : Prop := rackHistoriesUptoRow.holds Try.pinned (OpenSpec.upto rackHistoriesSpec)

/-- 'etalonlaw09.RackSlack', WHERE WHAT IT READS IS OF BULK AT MOST 1048576: true; the input reads as it did. -/
def rackSlackUptoRow : OpenClaim := { program := "ytdpabnfcfakjeaa", sum := "791e0db450d426f98fcfc22c6d3810e31edf016636f601a29752d2cb297a592d", func := "etalon/etalonlaw09.RackSlack", spec := "rackSlack", unfollowed := true, recurses := true, apart := false, narrowed := true }
def RackSlackUptoSaid : Prop := rackSlackUptoRow.holds Try.pinned (OpenSpec.upto rackSlackSpec)

/-- 'etalonlaw09.RackBestMask', WHERE WHAT IT READS IS OF BULK AT MOST 1048576: true; the input reads as it did. -/
def rackBestMaskUptoRow : OpenClaim := { program := "ytdpabnfcfakjeaa", sum := "791e0db450d426f98fcfc22c6d3810e31edf016636f601a29752d2cb297a592d", func := "etalon/etalonlaw09.RackBestMask", spec := "rackBestMask", unfollowed := true, recurses := true, apart := false, narrowed := true }
def RackBestMaskUptoSaid : Prop := rackBestMaskUptoRow.holds Try.pinned (OpenSpec.upto rackBestMaskSpec)

/-- 'etalontop.TopLoadedBatch', WHERE WHAT IT READS IS OF BULK AT MOST 1048576: true; the input reads as it did. -/
def topLoadedBatchUptoRow : OpenClaim := { program := "ytdpabnfcfakjeaa", sum := "791e0db450d426f98fcfc22c6d3810e31edf016636f601a29752d2cb297a592d", func := "etalon/etalontop.TopLoadedBatch", spec := "topLoadedBatch", unfollowed := true, recurses := true, apart := false, narrowed := true }
def TopLoadedBatchUptoSaid : Prop := topLoadedBatchUptoRow.holds Try.pinned (OpenSpec.upto topLoadedBatchSpec)

end Rows
end Go.Proofs.Ytdpabnfcfakjeaa
