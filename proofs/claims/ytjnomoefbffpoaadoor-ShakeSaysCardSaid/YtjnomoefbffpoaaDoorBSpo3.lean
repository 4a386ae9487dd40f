/- The statements of chapter 5: edges. -/
import Derived.Test.YtjnomoefbffpoaaDoorZabY
import Derived.Test.YtjnomoefbffpoaaDoorBSpo2
import Derived.Test.YtjnomoefbffpoaaDoorBNum
import Derived.KernelRfl
namespace Zab.YtjnomoefbffpoaaDoorB
open Go
open Go.IntWalk (i64_in)
set_option maxRecDepth 100000
set_option linter.unusedSimpArgs false
set_option linter.unusedVariables false
attribute [-simp] getElem?_pos
attribute [local simp] sees_nil sees_rf sees_i sees_sl sees_z sees_rs sees_fl

/-- The first bytes of nothing's sum. -/
theorem nothing3 : (outL 136 (padS 136 6 (zL 25, 0)) 3) = [167, 255, 198] := by kernel_rfl
theorem nothing_at : ni (outL 136 (padS 136 6 (zL 25, 0)) 32) 0 = 167 ∧ ni (outL 136 (padS 136 6 (zL 25, 0)) 32) 1 = 255 ∧ ni (outL 136 (padS 136 6 (zL 25, 0)) 32) 2 = 198 := by
  have e : ∀ j, j < 3 → ni (outL 136 (padS 136 6 (zL 25, 0)) 32) j = ni (outL 136 (padS 136 6 (zL 25, 0)) 3) j := fun j hj => by
    unfold outL
    rw [ni_map (by omega), ni_map hj]
  rw [e 0 (by omega), e 1 (by omega), e 2 (by omega), nothing3]
  exact ⟨rfl, rfl, rfl⟩
theorem first5 : FF tab 7 [] = some ⟨.b true, []⟩ := by
  refine call_by (A := A7) rfl rfl ?_
  have h := sSum256 (x := .z) (L := []) (.none .u8) ⟨(by intro y hy; cases hy), by simp⟩
  rw [takeL_nil] at h
  obtain ⟨e0, e1, e2⟩ := nothing_at
  have hl := outL_len 136 (padS 136 6 (zL 25, 0)) 32
  have g0 := nums_get (k := .u8) (L := outL 136 (padS 136 6 (zL 25, 0)) 32) (j := 0) (by omega)
  have g1 := nums_get (k := .u8) (L := outL 136 (padS 136 6 (zL 25, 0)) 32) (j := 1) (by omega)
  have g2 := nums_get (k := .u8) (L := outL 136 (padS 136 6 (zL 25, 0)) 32) (j := 2) (by omega)
  have hn := nums_length .u8 (outL 136 (padS 136 6 (zL 25, 0)) 32)
  rw [hl] at hn
  rw [e0] at g0
  rw [e1] at g1
  rw [e2] at g2
  generalize nums .u8 (outL 136 (padS 136 6 (zL 25, 0)) 32) = O at *
  simp (disch := first | assumption | omega | (simp only [List.length_cons, List.length_nil, List.length_set, List.length_append, List.length_replicate, List.length_map, List.length_range, List.length_take, List.length_drop, nums_length, bools_length, vecs_length]; first | done | omega)) [A7, h, g0, g1, g2]

theorem ptr_rf (d o : Nat) : binV .ptr .eql (.rf d o) .np = some (.b false) := rfl
theorem outL_take (R : Nat) (S : List Ln × Nat) {n m : Nat} (h : n ≤ m) : (outL R S m).take n = outL R S n := by
  have e : m = n + (m - n) := by omega
  rw [e, outL_add, List.take_append_of_le_length (by rw [outL_len]; omega), List.take_of_length_le (by rw [outL_len]; omega)]

end Zab.YtjnomoefbffpoaaDoorB
