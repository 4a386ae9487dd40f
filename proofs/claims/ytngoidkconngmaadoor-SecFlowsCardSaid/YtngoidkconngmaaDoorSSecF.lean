/- A secret that goes on: eight programs, each shown or not, run to their ends. -/
import Derived.Test.YtngoidkconngmaaDoorZabY
import Derived.Test.YtngoidkconngmaaDoorSSecR0
import Derived.Test.YtngoidkconngmaaDoorSSecR1
import Derived.Test.YtngoidkconngmaaDoorSSecR2
import Derived.Test.YtngoidkconngmaaDoorSSecR3
import Derived.Test.YtngoidkconngmaaDoorZabG7
import Derived.Test.YtngoidkconngmaaDoorSAbs
import Derived.KernelRfl
namespace Zab.YtngoidkconngmaaDoorS
open Go
open Go.IntWalk (i64_in)
set_option maxRecDepth 1000000
set_option linter.unusedSimpArgs false
set_option linter.unusedVariables false
attribute [-simp] getElem?_pos

theorem first14 : FF tab 23 [] = some ⟨.b true, []⟩ := FF_of (n := 300) (by kernel_rfl)
theorem flow_shape : A5.body = .seq (.pre [] [1, 0] [63, 42, 22] (.reg [⟨some 4, .move (.const (.bool false)), none⟩])) (.seq (.pre [] [1, 0] [63, 42, 22] (.reg [⟨some 10, .call (.func 23) [], none⟩, ⟨some 5, .move (.tmp 10), none⟩]))
  (.seq (.seq (.pre [] [5, 1, 0] [63, 42, 22] (.reg [⟨some 11, .move (.tmp 5), none⟩, ⟨some 12, .un .not (.tmp 11), none⟩])) (.cond (.tmp 12) (.seq (.pre [] [] [63, 42, 22] (.reg [⟨some 4, .move (.const (.bool false)), none⟩])) .ret) .skip))
  (.seq (.seq (.pre [] [5, 1, 0] [63, 42, 22] (.reg [⟨some 13, .move (.tmp 0), none⟩, ⟨some 14, .bin .no .lss (.tmp 13) (.const (.int .i64 0)), none⟩])) (.cond (.tmp 14) (.pre [] [5, 1, 0] [63, 42, 22] (.reg [⟨some 15, .move (.tmp 0), none⟩, ⟨some 16, .bin .no .add (.tmp 15) (.const (.int .i64 1)), none⟩, ⟨some 17, .un .neg (.tmp 16), none⟩, ⟨some 0, .move (.tmp 17), none⟩])) .skip))
  (.seq (.pre [] [5, 1, 0] [63, 42, 22] (.reg [⟨some 18, .move (.tmp 0), none⟩, ⟨some 19, .bin .no .rem (.tmp 18) (.const (.int .i64 8)), none⟩, ⟨some 0, .move (.tmp 19), none⟩])) (.seq (.pre [] [5, 1, 0] [63, 42, 22] flowX) flowY))))) := rfl

/-- The rest, of each of the eight. -/
theorem flow_all (k : Nat) (hk : k < 8) (b : Bool) (n : Int) : W (FF tab) (.seq flowX flowY) ⟨[(5, .b true), (1, .b b), (0, .i .i64 k)], []⟩ (Ends 2 [.t 4] [.i .i64 n, .b b] ⟨.b true, []⟩) := by
  match k, hk, b with
  | 0, _, true => exact run_W v0t r0t
  | 0, _, false => exact run_W v0f r0f
  | 1, _, true => exact run_W v1t r1t
  | 1, _, false => exact run_W v1f r1f
  | 2, _, true => exact run_W v2t r2t
  | 2, _, false => exact run_W v2f r2f
  | 3, _, true => exact run_W v3t r3t
  | 3, _, false => exact run_W v3f r3f
  | 4, _, true => exact run_W v4t r4t
  | 4, _, false => exact run_W v4f r4f
  | 5, _, true => exact run_W v5t r5t
  | 5, _, false => exact run_W v5f r5f
  | 6, _, true => exact run_W v6t r6t
  | 6, _, false => exact run_W v6f r6f
  | 7, _, true => exact run_W v7t r7t
  | 7, _, false => exact run_W v7f r7f

set_option maxHeartbeats 4000000 in
theorem SecFlows (n : Int) (hn : inK .i64 n) (b : Bool) : FF tab 5 [.i .i64 n, .b b] = some ⟨.b true, []⟩ := by
  refine call_by (A := A5) rfl rfl ?_
  rw [flow_shape]
  have hend : ∀ k : Nat, k < 8 → W (FF tab) (.seq flowX flowY) ⟨[(5, .b true), (1, .b b), (0, .i .i64 k)], []⟩ (Ends A5.np A5.res [.i .i64 n, .b b] ⟨.b true, []⟩) := fun k hk => flow_all k hk b n
  generalize Ends A5.np A5.res [.i .i64 n, .b b] ⟨.b true, []⟩ = Q at *
  generalize flowX = X at *
  generalize flowY = Y at *
  have n0 : -9223372036854775808 ≤ n := hn.1
  have n1 : n ≤ 9223372036854775807 := hn.2
  by_cases h : n < 0
  · have w1 : IntKind.i64.wrap (n + 1) = n + 1 := i64_in _ (by omega)
    have w2 : IntKind.i64.wrap (-(n + 1)) = -(n + 1) := i64_in _ (by omega)
    have t : (-(n + 1)).tmod 8 = (((-(n + 1)).toNat % 8 : Nat) : Int) := by rw [Int.tmod_eq_emod_of_nonneg (by omega)]; omega
    have he := hend ((-(n + 1)).toNat % 8) (by omega)
    rw [W_seq] at he
    generalize ((((-(n + 1)).toNat % 8 : Nat)) : Int) = k at *
    simp (disch := first | assumption | omega | (simp only [List.length_cons, List.length_nil, List.length_set, List.length_append, List.length_replicate, List.length_map, List.length_range, List.length_take, List.length_drop, nums_length, bools_length, vecs_length]; first | done | omega)) [first14, h, w1, w2, t, he]
  · have t : n.tmod 8 = ((n.toNat % 8 : Nat) : Int) := by rw [Int.tmod_eq_emod_of_nonneg (by omega)]; omega
    have he := hend (n.toNat % 8) (by omega)
    rw [W_seq] at he
    generalize (((n.toNat % 8 : Nat)) : Int) = k at *
    simp (disch := first | assumption | omega | (simp only [List.length_cons, List.length_nil, List.length_set, List.length_append, List.length_replicate, List.length_map, List.length_range, List.length_take, List.length_drop, nums_length, bools_length, vecs_length]; first | done | omega)) [first14, h, t, he]
end Zab.YtngoidkconngmaaDoorS
