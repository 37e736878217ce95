/- The run of the law PolarStokes by the executor: true at every leaf. Conditions: none. -/
import Derived.Test.YtcggbkocpahkdaaEx29
import Derived.Test.YtcggbkocpahkdaaPoE
import Derived.Test.YtcggbkocpahkdaaLwStokesF
namespace Go.Proofs.Ytcggbkocpahkdaa
open Go Go.Ex Go.RowKit
theorem polarStokesRun : ((callE (mkG stokesG stokesX smE) (drawX (mkG stokesG stokesX smE)) 3000 (FI.of Try.f9 true) (canA 0 0 [(true, [.i, .i, .i, .i])]) (stP [])).all lawD) = true := by kernel_rfl
end Go.Proofs.Ytcggbkocpahkdaa
