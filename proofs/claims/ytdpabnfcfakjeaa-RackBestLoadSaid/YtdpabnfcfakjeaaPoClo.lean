/- The closed facts of the rows that are facts of the program alone. -/
import Derived.Test.YtdpabnfcfakjeaaEx31
import Derived.Test.YtdpabnfcfakjeaaRows

namespace Go.Proofs.Ytdpabnfcfakjeaa
open Go Go.Ex Go.RowKit Go.WideShapes Go.ChangeShapes Go.ChangeAt
theorem clo1 : (laidOutB Try.prog) = true := by kernel_rfl
theorem ZS : (mapsRowed Try.prog) = true := by kernel_rfl
theorem ZT : ((Try.prog.stops == [])) = true := by kernel_rfl
theorem ZU : ((Try.prog.stopKnobs == [])) = true := by kernel_rfl
theorem Y9 : (Try.prog.stopsHeard) = true := by kernel_rfl
theorem ZA : (Try.prog.mayEnter) = true := by kernel_rfl
end Go.Proofs.Ytdpabnfcfakjeaa

