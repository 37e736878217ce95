/- The closed facts of the rows that are facts of the program alone. -/
import Derived.Test.YtdpabnfcfakjeaaEx31
import Derived.Test.YtdpabnfcfakjeaaRows
namespace Go.Proofs.Ytdpabnfcfakjeaa
open Go Go.Ex Go.RowKit Go.WideShapes Go.ChangeShapes Go.ChangeAt
theorem clo1:(laidOutB Try.prog)=true:=by kernel_rfl
theorem afb:(mapsRowed Try.prog)=true:=by kernel_rfl
theorem afc:((Try.prog.stops==[]))=true:=by kernel_rfl
theorem afd:((Try.prog.stopKnobs==[]))=true:=by kernel_rfl
theorem aeR:(Try.prog.stopsHeard)=true:=by kernel_rfl
theorem aeS:(Try.prog.mayEnter)=true:=by kernel_rfl
end Go.Proofs.Ytdpabnfcfakjeaa
