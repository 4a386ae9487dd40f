/- Numbers drawn below a prime: the program's below the great one, the document's. -/
import Derived.Test.YtngoidkconngmaaDoorZabY
import Derived.Test.YtngoidkconngmaaDoorGDrawU
namespace Zab.YtngoidkconngmaaDoorG
open Go
open Go.IntWalk (i64_in)
set_option maxRecDepth 100000
set_option linter.unusedSimpArgs false
set_option linter.unusedVariables false
attribute [-simp] getElem?_pos
theorem two_in {i j : Int} (i0 : 0 ≤ i) (i1 : i < 256) (j0 : 0 ≤ j) (j1 : j < 256) : Bys [i, j] :=
  ⟨fun y hy => by
    simp only [List.mem_cons, List.not_mem_nil, or_false] at hy
    rcases hy with rfl | rfl
    · exact ⟨i0, by show _ ≤ (255 : Int); omega⟩
    · exact ⟨j0, by show _ ≤ (255 : Int); omega⟩, by simp⟩

end Zab.YtngoidkconngmaaDoorG
