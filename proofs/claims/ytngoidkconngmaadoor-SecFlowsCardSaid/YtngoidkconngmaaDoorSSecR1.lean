/- Some of the eight programs, run. -/
import Derived.Test.YtngoidkconngmaaDoorSSecP
namespace Zab.YtngoidkconngmaaDoorS
open Go
set_option maxRecDepth 1000000
theorem v4t : runV 4 true = true := by kernel_rfl
theorem r4t : runF 4 true = true := by kernel_rfl
theorem v4f : runV 4 false = true := by kernel_rfl
theorem r4f : runF 4 false = true := by kernel_rfl
theorem v5t : runV 5 true = true := by kernel_rfl
theorem r5t : runF 5 true = true := by kernel_rfl
theorem v5f : runV 5 false = true := by kernel_rfl
theorem r5f : runF 5 false = true := by kernel_rfl
end Zab.YtngoidkconngmaaDoorS
