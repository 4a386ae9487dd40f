/- Errors, seen as numbers. -/
import Derived.Test.YtbmhaamjajoggaaDoorZabY
import Derived.Test.YtbmhaamjajoggaaDoorBErr
import Derived.KernelRfl
namespace Zab.YtbmhaamjajoggaaDoorB
open Go
set_option maxRecDepth 100000
set_option linter.unusedSimpArgs false
set_option linter.unusedVariables false
attribute [-simp] getElem?_pos

theorem Fault {c : Nat} (h : Code c) : FF tab 77 [errV c] = some ⟨.ag [.i .i64 c, .b false, .i .i64 0], []⟩ := by
  rcases h with rfl | rfl | rfl | rfl | rfl | rfl | rfl | rfl | rfl
  · exact FF_of (n := 60) (by kernel_rfl)
  · exact FF_of (n := 60) (by kernel_rfl)
  · exact FF_of (n := 60) (by kernel_rfl)
  · exact FF_of (n := 60) (by kernel_rfl)
  · exact FF_of (n := 60) (by kernel_rfl)
  · exact FF_of (n := 60) (by kernel_rfl)
  · exact FF_of (n := 60) (by kernel_rfl)
  · exact FF_of (n := 60) (by kernel_rfl)
  · exact FF_of (n := 60) (by kernel_rfl)
theorem Bare (d : Int) : FF tab 48 [.i .i64 d] = some ⟨.ag [.i .i64 d, .b false, .i .i64 0], []⟩ := by
  refine call_by (A := A48) rfl rfl ?_
  have hs : ∀ cs vs : List AV, cs.length = 3 → vs.length = 3 → setR (some cs) 0 3 (some vs) = some vs := fun _ _ h1 h2 => setR_all h1 h2
  simp (disch := first | assumption | omega | (simp only [lenS]; first | done | omega)) [A48, hs]
theorem SameFault (c d : Int) : FF tab 76 [.ag [.i .i64 c, .b false, .i .i64 0], .ag [.i .i64 d, .b false, .i .i64 0]] = some ⟨.b (decide (c = d)), []⟩ := by
  refine call_by (A := A76) rfl rfl ?_
  by_cases h : c = d
  · simp (disch := first | assumption | omega | (simp only [lenS]; first | done | omega)) [A76, h]
  · simp (disch := first | assumption | omega | (simp only [lenS]; first | done | omega)) [A76, h]
theorem SeeIs {c : Nat} (h : Code c) (d : Int) : FF tab 13 [errV c, .i .i64 d] = some ⟨.b (decide ((c : Int) = d)), []⟩ := by
  have fe := errV_flat c
  have hF := Fault h
  have hB := Bare d
  have hS := SameFault (c : Int) d
  have h2 : FF tab 47 [errV c, .ag [.i .i64 d, .b false, .i .i64 0]] = some ⟨.b (decide ((c : Int) = d)), []⟩ := by
    refine call_by (A := A47) rfl rfl ?_
    simp (disch := first | assumption | omega | (simp only [lenS]; first | done | omega)) [A47, hF, hS]
  refine call_by (A := A13) rfl rfl ?_
  simp (disch := first | assumption | omega | (simp only [lenS]; first | done | omega)) [A13, hB, h2]
end Zab.YtbmhaamjajoggaaDoorB
