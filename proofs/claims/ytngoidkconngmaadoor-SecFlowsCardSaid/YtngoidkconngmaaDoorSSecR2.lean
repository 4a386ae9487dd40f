/- Some of the eight programs, run. -/
import Derived.Test.YtngoidkconngmaaDoorSSecP
namespace Zab.YtngoidkconngmaaDoorS
open Go
set_option maxRecDepth 1000000
theorem v6t : runV 6 true = true := by kernel_rfl
theorem r6t : runF 6 true = true := by kernel_rfl
theorem v6f : runV 6 false = true := by kernel_rfl
theorem r6f : runF 6 false = true := by kernel_rfl
end Zab.YtngoidkconngmaaDoorS
