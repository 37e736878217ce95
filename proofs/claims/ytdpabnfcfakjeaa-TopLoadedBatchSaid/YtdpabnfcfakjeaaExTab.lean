/-
 Tables of a seat: how they are made and what they must be.
-/
import Derived.Test.YtdpabnfcfakjeaaEx15a
namespace Go.Ex
open Go
def XY (f:Func):Code:=
 match f.body with
 | some c=>c
 | none => .skip
def FI.of (f:Func)(quiet:Bool):FI:=⟨XY f,f.ntmps,f.results.toList,quiet⟩
end Go.Ex
