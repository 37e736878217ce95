/-
  The greatest common divisor that PolarStokes meets: that of the squares of the last three numbers and of the square of the first.
-/
import Derived.Test.YtcggbkocpahkdaaPoG
namespace Go.Ex
open Go Go.Proofs
noncomputable section
def stokesG : GTab := [([[([1, 1], 1), ([2, 2], 1), ([3, 3], 1)], [([0, 0], 1)]], 5000)]
def stokesX : XTab := []
theorem stokesX_ok (η : Env) (_ : GoodF η) (_ : GOk η stokesG) : XOk η stokesX := fun x hx => by cases hx
end
end Go.Ex
