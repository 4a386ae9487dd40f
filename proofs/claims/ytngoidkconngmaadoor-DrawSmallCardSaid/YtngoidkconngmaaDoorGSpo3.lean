/- The statements of chapter 5: edges. -/
import Derived.Test.YtngoidkconngmaaDoorZabY
import Derived.Test.YtngoidkconngmaaDoorGSpo2
import Derived.Test.YtngoidkconngmaaDoorGNum
import Derived.KernelRfl
namespace Zab.YtngoidkconngmaaDoorG
open Go
open Go.IntWalk (i64_in)
set_option maxRecDepth 100000
set_option linter.unusedSimpArgs false
set_option linter.unusedVariables false
attribute [-simp] getElem?_pos
attribute [local simp] sees_nil sees_rf sees_i sees_sl sees_z sees_rs sees_fl

/-- The first bytes of nothing's sum. -/
theorem nothing3 : (outL 136 (padS 136 6 (zL 25, 0)) 3) = [167, 255, 198] := by kernel_rfl
theorem nothing_at : ni (outL 136 (padS 136 6 (zL 25, 0)) 32) 0 = 167 ∧ ni (outL 136 (padS 136 6 (zL 25, 0)) 32) 1 = 255 ∧ ni (outL 136 (padS 136 6 (zL 25, 0)) 32) 2 = 198 := by
  have e : ∀ j, j < 3 → ni (outL 136 (padS 136 6 (zL 25, 0)) 32) j = ni (outL 136 (padS 136 6 (zL 25, 0)) 3) j := fun j hj => by
    unfold outL
    rw [ni_map (by omega), ni_map hj]
  rw [e 0 (by omega), e 1 (by omega), e 2 (by omega), nothing3]
  exact ⟨rfl, rfl, rfl⟩
theorem ptr_rf (d o : Nat) : binV .ptr .eql (.rf d o) .np = some (.b false) := rfl
theorem outL_take (R : Nat) (S : List Ln × Nat) {n m : Nat} (h : n ≤ m) : (outL R S m).take n = outL R S n := by
  have e : m = n + (m - n) := by omega
  rw [e, outL_add, List.take_append_of_le_length (by rw [outL_len]; omega), List.take_of_length_le (by rw [outL_len]; omega)]

end Zab.YtngoidkconngmaaDoorG
