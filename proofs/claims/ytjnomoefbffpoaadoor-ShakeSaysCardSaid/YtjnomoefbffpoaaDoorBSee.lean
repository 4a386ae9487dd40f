/- Errors, seen as numbers. -/
import Derived.Test.YtjnomoefbffpoaaDoorZabY
import Derived.Test.YtjnomoefbffpoaaDoorBErr
import Derived.KernelRfl
namespace Zab.YtjnomoefbffpoaaDoorB
open Go
set_option maxRecDepth 100000
set_option linter.unusedSimpArgs false
set_option linter.unusedVariables false
attribute [-simp] getElem?_pos

theorem Fault {c : Nat} (h : Code c) : FF tab 61 [errV c] = some ⟨.ag [.i .i64 c, .b false, .i .i64 0], []⟩ := by
  rcases h with rfl | rfl | rfl | rfl | rfl | rfl | rfl | rfl | rfl
  · exact FF_of (n := 60) (by kernel_rfl)
  · exact FF_of (n := 60) (by kernel_rfl)
  · exact FF_of (n := 60) (by kernel_rfl)
  · exact FF_of (n := 60) (by kernel_rfl)
  · exact FF_of (n := 60) (by kernel_rfl)
  · exact FF_of (n := 60) (by kernel_rfl)
  · exact FF_of (n := 60) (by kernel_rfl)
  · exact FF_of (n := 60) (by kernel_rfl)
  · exact FF_of (n := 60) (by kernel_rfl)
theorem Bare (d : Int) : FF tab 29 [.i .i64 d] = some ⟨.ag [.i .i64 d, .b false, .i .i64 0], []⟩ := by
  refine call_by (A := A29) rfl rfl ?_
  have hs : ∀ cs vs : List AV, cs.length = 3 → vs.length = 3 → setR (some cs) 0 3 (some vs) = some vs := fun _ _ h1 h2 => setR_all h1 h2
  simp (disch := first | assumption | omega | (simp only [List.length_cons, List.length_nil, List.length_set, List.length_append, List.length_replicate, List.length_map, List.length_range, List.length_take, List.length_drop, nums_length, bools_length, vecs_length]; first | done | omega)) [A29, hs]
theorem SameFault (c d : Int) : FF tab 60 [.ag [.i .i64 c, .b false, .i .i64 0], .ag [.i .i64 d, .b false, .i .i64 0]] = some ⟨.b (decide (c = d)), []⟩ := by
  refine call_by (A := A60) rfl rfl ?_
  by_cases h : c = d
  · simp (disch := first | assumption | omega | (simp only [List.length_cons, List.length_nil, List.length_set, List.length_append, List.length_replicate, List.length_map, List.length_range, List.length_take, List.length_drop, nums_length, bools_length, vecs_length]; first | done | omega)) [A60, h]
  · simp (disch := first | assumption | omega | (simp only [List.length_cons, List.length_nil, List.length_set, List.length_append, List.length_replicate, List.length_map, List.length_range, List.length_take, List.length_drop, nums_length, bools_length, vecs_length]; first | done | omega)) [A60, h]
theorem SeeIs {c : Nat} (h : Code c) (d : Int) : FF tab 10 [errV c, .i .i64 d] = some ⟨.b (decide ((c : Int) = d)), []⟩ := by
  have fe := errV_flat c
  have hF := Fault h
  have hB := Bare d
  have hS := SameFault (c : Int) d
  have h2 : FF tab 28 [errV c, .ag [.i .i64 d, .b false, .i .i64 0]] = some ⟨.b (decide ((c : Int) = d)), []⟩ := by
    refine call_by (A := A28) rfl rfl ?_
    simp (disch := first | assumption | omega | (simp only [List.length_cons, List.length_nil, List.length_set, List.length_append, List.length_replicate, List.length_map, List.length_range, List.length_take, List.length_drop, nums_length, bools_length, vecs_length]; first | done | omega)) [A28, hF, hS]
  refine call_by (A := A10) rfl rfl ?_
  simp (disch := first | assumption | omega | (simp only [List.length_cons, List.length_nil, List.length_set, List.length_append, List.length_replicate, List.length_map, List.length_range, List.length_take, List.length_drop, nums_length, bools_length, vecs_length]; first | done | omega)) [A10, hB, h2]
end Zab.YtjnomoefbffpoaaDoorB
