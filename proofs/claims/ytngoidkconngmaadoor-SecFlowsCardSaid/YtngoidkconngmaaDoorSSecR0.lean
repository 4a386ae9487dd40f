/- Some of the eight programs, run. -/
import Derived.Test.YtngoidkconngmaaDoorSSecP
namespace Zab.YtngoidkconngmaaDoorS
open Go
set_option maxRecDepth 1000000
theorem v0t : runV 0 true = true := by kernel_rfl
theorem r0t : runF 0 true = true := by kernel_rfl
theorem v0f : runV 0 false = true := by kernel_rfl
theorem r0f : runF 0 false = true := by kernel_rfl
theorem v1t : runV 1 true = true := by kernel_rfl
theorem r1t : runF 1 true = true := by kernel_rfl
theorem v1f : runV 1 false = true := by kernel_rfl
theorem r1f : runF 1 false = true := by kernel_rfl
theorem v2t : runV 2 true = true := by kernel_rfl
theorem r2t : runF 2 true = true := by kernel_rfl
theorem v2f : runV 2 false = true := by kernel_rfl
theorem r2f : runF 2 false = true := by kernel_rfl
theorem v3t : runV 3 true = true := by kernel_rfl
theorem r3t : runF 3 true = true := by kernel_rfl
theorem v3f : runV 3 false = true := by kernel_rfl
theorem r3f : runF 3 false = true := by kernel_rfl
end Zab.YtngoidkconngmaaDoorS
