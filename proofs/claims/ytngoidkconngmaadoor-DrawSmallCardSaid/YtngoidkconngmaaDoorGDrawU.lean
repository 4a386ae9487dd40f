/- Numbers drawn below a prime: both functions, in both words. -/
import Derived.Test.YtngoidkconngmaaDoorZabY
import Derived.Test.YtngoidkconngmaaDoorZabG8
import Derived.Test.YtngoidkconngmaaDoorGStr2
namespace Zab.YtngoidkconngmaaDoorG
open Go
open Go.IntWalk (i64_in)
set_option maxRecDepth 100000
set_option linter.unusedSimpArgs false
set_option linter.unusedVariables false
attribute [-simp] getElem?_pos

/-- The bytes of a seed and two more. -/
abbrev stF (R : Nat) (L : List Int) : Nat → Int := bt R (padS R 31 (takeL R (zL 25, 0) L))

end Zab.YtngoidkconngmaaDoorG
