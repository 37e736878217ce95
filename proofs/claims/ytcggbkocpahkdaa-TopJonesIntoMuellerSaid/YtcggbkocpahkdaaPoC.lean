/-
  The examples of chapter 5: awake answers true.
-/
import Derived.Test.YtcggbkocpahkdaaPoB
namespace Go.Ex
open Go Go.Proofs Go.RowKit
noncomputable section

theorem s_awake {η : Env} (hg : GoodF η) : SumOk Try.prog η 20 (gLit [] (.one (.bool (.lit true)))) :=
  lit_sum (n := 3000) (mkC_ok hg (sm5_ok hg)) Try.fok20 (by kernel_rfl) (by kernel_rfl)

end
end Go.Ex
