/- The statements of chapter 5: sums. -/
import Derived.Test.YtngoidkconngmaaDoorZabY
import Derived.Test.YtngoidkconngmaaDoorGSpo5
namespace Zab.YtngoidkconngmaaDoorG
open Go
open Go.IntWalk (i64_in)
set_option maxRecDepth 100000
set_option linter.unusedSimpArgs false
set_option linter.unusedVariables false
attribute [-simp] getElem?_pos
attribute [local simp] sees_nil sees_rf sees_i sees_sl sees_z sees_rs sees_fl

theorem src_isL {y : AV} {L : List Int} (h : IsL .u8 y L) (l : List (Nat × List AV)) (d : Nat) : srcV l 1 d y = some (nums .u8 L, L.length) := by
  rcases h with rfl | ⟨rfl, rfl⟩
  · exact srcV_sl (by rw [nums_length, Nat.mul_one])
  · rfl
theorem s256 (n : Int) {x : AV} {xs : List AV} {Ls : List (List Int)} (hv : IsV x xs Ls) (hB : ∀ L ∈ Ls, Bys L) (hm : xs.length < 9223372036854775807) :
    FF tab 118 [.i .i64 n, x] = some ⟨if n < 0 ∨ 1048576 < n then .tp [.z, .er 1] else .tp [.sl (nums .u8 (outL 136 (padS 136 31 (takeL 136 (zL 25, 0) Ls.flatten)) n.toNat)) n.toNat, .nl], []⟩ := by
  refine call_by (A := A118) rfl rfl ?_
  have fv := hv.flat
  have h := sAllV (R := 136) (by omega) (by omega) (X := 31) (by omega) (by omega) n hv hB hm
  rw [show ((136 : Nat) : Int) = 136 from rfl] at h
  generalize outL 136 (padS 136 31 (takeL 136 (zL 25, 0) Ls.flatten)) n.toNat = O at *
  by_cases hn : n < 0 ∨ 1048576 < n
  · rw [if_pos hn] at h ⊢
    clear hn
    simp (disch := first | assumption | omega | (simp only [List.length_cons, List.length_nil, List.length_set, List.length_append, List.length_replicate, List.length_map, List.length_range, List.length_take, List.length_drop, nums_length, bools_length, vecs_length]; first | done | omega)) [A118, h]
  · rw [if_neg hn] at h ⊢
    clear hn
    simp (disch := first | assumption | omega | (simp only [List.length_cons, List.length_nil, List.length_set, List.length_append, List.length_replicate, List.length_map, List.length_range, List.length_take, List.length_drop, nums_length, bools_length, vecs_length]; first | done | omega)) [A118, h]
theorem d256 {n : Int} (n0 : 0 ≤ n) (n1 : n ≤ 1048576) {x : AV} {xs : List AV} {Ls : List (List Int)} (hv : IsV x xs Ls) (hB : ∀ L ∈ Ls, Bys L) (hm : xs.length < 9223372036854775807) :
    FF tab 73 [.i .i64 n, x] = some ⟨.sl (nums .u8 (outL 136 (padS 136 31 (takeL 136 (zL 25, 0) Ls.flatten)) n.toNat)) n.toNat, []⟩ := by
  refine call_by (A := A73) rfl rfl ?_
  have fv := hv.flat
  have h := dSome (R := 136) (by omega) (by omega) (X := 31) (by omega) (by omega) n0 n1 hv hB hm
  rw [show ((136 : Nat) : Int) = 136 from rfl] at h
  generalize outL 136 (padS 136 31 (takeL 136 (zL 25, 0) Ls.flatten)) n.toNat = O at *
  simp (disch := first | assumption | omega | (simp only [List.length_cons, List.length_nil, List.length_set, List.length_append, List.length_replicate, List.length_map, List.length_range, List.length_take, List.length_drop, nums_length, bools_length, vecs_length]; first | done | omega)) [A73, h]

theorem flat_len : ∀ (Ms : List (List Int)), (∀ L ∈ Ms, L.length ≤ 400) → Ms.flatten.length ≤ 400 * Ms.length := fun Ms => by
  induction Ms with
  | nil => intro _; simp
  | cons M Ms ih =>
    intro h
    have h2 := ih fun L hL => h L (List.mem_cons_of_mem _ hL)
    have h3 := h M (List.mem_cons_self ..)
    simp only [List.flatten_cons, List.length_append, List.length_cons]
    omega

end Zab.YtngoidkconngmaaDoorG
