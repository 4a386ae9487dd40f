/- The sets of chapter 11, and their sizes. -/
import Derived.Test.YtbmhaamjajoggaaDoorZabY
import Derived.Test.YtbmhaamjajoggaaDoorZabG6
import Derived.Test.YtbmhaamjajoggaaDoorBAbs
import Derived.KernelRfl
namespace Zab.YtbmhaamjajoggaaDoorB
open Go
open Go.IntWalk (i64_in)
set_option maxRecDepth 100000
set_option linter.unusedSimpArgs false
set_option linter.unusedVariables false
attribute [-simp] getElem?_pos

def seven (a b c d e f g h i : Int) : List AV := [.i .i64 a, .i .i64 b, .i .i64 c, .i .i64 d, .i .i64 e, .i .i64 f, .i .i64 g, .i .i64 h, .i .i64 i]
def s0 : List AV := seven 4 4 2 39 78 131072 95232 80 128
def s1 : List AV := seven 6 5 4 49 196 524288 261888 55 192
def s2 : List AV := seven 8 7 2 60 120 524288 261888 75 256
def sS : List AV := s0 ++ (s1 ++ s2)
theorem first11 : FF tab 7 [] = some ⟨.b true, []⟩ := FF_of (n := 60) (by kernel_rfl)
theorem Sets : FF tab 37 [] = some ⟨.sl sS 3, []⟩ := FF_of (n := 60) (by kernel_rfl)
theorem DsaSets : FF tab 9 [] = some ⟨.sl sS 3, []⟩ := FF_of (n := 60) (by kernel_rfl)
theorem Sizes0 : FF tab 36 [.i .i64 0] = some ⟨.tp [.i .i64 1312, .i .i64 2560, .i .i64 2420], []⟩ := FF_of (n := 60) (by kernel_rfl)
theorem Sizes1 : FF tab 36 [.i .i64 1] = some ⟨.tp [.i .i64 1952, .i .i64 4032, .i .i64 3309], []⟩ := FF_of (n := 60) (by kernel_rfl)
theorem Sizes2 : FF tab 36 [.i .i64 2] = some ⟨.tp [.i .i64 2592, .i .i64 4896, .i .i64 4627], []⟩ := FF_of (n := 60) (by kernel_rfl)
theorem fSizes0 : FF tab 53 [.i .i64 0] = some ⟨.tp [.i .i64 1312, .i .i64 2560, .i .i64 2420], []⟩ := FF_of (n := 60) (by kernel_rfl)
theorem fSizes1 : FF tab 53 [.i .i64 1] = some ⟨.tp [.i .i64 1952, .i .i64 4032, .i .i64 3309], []⟩ := FF_of (n := 60) (by kernel_rfl)
theorem fSizes2 : FF tab 53 [.i .i64 2] = some ⟨.tp [.i .i64 2592, .i .i64 4896, .i .i64 4627], []⟩ := FF_of (n := 60) (by kernel_rfl)
theorem wOf (s : Int) (h : s < 0 ∨ 3 ≤ s) : FF tab 38 [.i .i64 s] = some ⟨.tp [.ag (seven 0 0 0 0 0 0 0 0 0), .er 2], []⟩ := by
  refine call_by (A := A38) rfl rfl ?_
  by_cases h0 : s < 0
  · simp (disch := first | assumption | omega | (simp only [lenS]; first | done | omega)) [A38, Sets, h0, seven]
  · have h3 : 3 ≤ s := by omega
    simp (disch := first | assumption | omega | (simp only [lenS]; first | done | omega)) [A38, Sets, h0, h3, seven]
theorem SizesN (s : Int) (h : s < 0 ∨ 3 ≤ s) : FF tab 36 [.i .i64 s] = some ⟨.tp [.i .i64 0, .i .i64 0, .i .i64 0], []⟩ := by
  refine call_by (A := A36) rfl rfl ?_
  have ho := wOf s h
  simp (disch := first | assumption | omega | (simp only [lenS]; first | done | omega)) [A36, ho, seven]
theorem fSizesN (s : Int) (h : s < 0 ∨ 3 ≤ s) : FF tab 53 [.i .i64 s] = some ⟨.tp [.i .i64 0, .i .i64 0, .i .i64 0], []⟩ := by
  refine call_by (A := A53) rfl rfl ?_
  by_cases h0 : s < 0
  · simp (disch := first | assumption | omega | (simp only [lenS]; first | done | omega)) [A53, h0]
  · have h3 : 2 < s := by omega
    simp (disch := first | assumption | omega | (simp only [lenS]; first | done | omega)) [A53, h0, h3]
theorem sizes (s : Int) : ∃ a b c : Int, FF tab 36 [.i .i64 s] = some ⟨.tp [.i .i64 a, .i .i64 b, .i .i64 c], []⟩ ∧ FF tab 53 [.i .i64 s] = some ⟨.tp [.i .i64 a, .i .i64 b, .i .i64 c], []⟩ := by
  by_cases h : s < 0 ∨ 3 ≤ s
  · exact ⟨_, _, _, SizesN s h, fSizesN s h⟩
  · have : s = 0 ∨ s = 1 ∨ s = 2 := by omega
    rcases this with rfl | rfl | rfl
    · exact ⟨_, _, _, Sizes0, fSizes0⟩
    · exact ⟨_, _, _, Sizes1, fSizes1⟩
    · exact ⟨_, _, _, Sizes2, fSizes2⟩
end Zab.YtbmhaamjajoggaaDoorB
