/- Some of the eight programs, run. -/
import Derived.Test.YtngoidkconngmaaDoorSSecP
namespace Zab.YtngoidkconngmaaDoorS
open Go
set_option maxRecDepth 1000000
theorem v7t : runV 7 true = true := by kernel_rfl
theorem r7t : runF 7 true = true := by kernel_rfl
theorem v7f : runV 7 false = true := by kernel_rfl
theorem r7f : runF 7 false = true := by kernel_rfl
end Zab.YtngoidkconngmaaDoorS
