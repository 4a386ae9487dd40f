/- Many vectors, one behind the other: both functions. -/
import Derived.Test.YtbmhaamjajoggaaDoorZabY
import Derived.Test.YtbmhaamjajoggaaDoorBWirB
namespace Zab.YtbmhaamjajoggaaDoorB
open Go
open Go.IntWalk (i64_in)
set_option maxRecDepth 100000
set_option linter.unusedSimpArgs false
set_option linter.unusedVariables false
attribute [-simp] getElem?_pos

set_option maxHeartbeats 8000000 in
theorem pSignedV {low high : Int} {d : Nat} (b : Bnd low high d) {x : AV} {xs : List AV} {Ls : List (List Int)} (hv : IsW (IsL .i64) x xs Ls) (hl : ∀ L ∈ Ls, L.length = 256) (hm : Ls.length ≤ 100) (h0 : 0 < Ls.length) (C : List Int) (hC : C.length ≤ 100000) :
    FF tab 42 [.os (nums .u8 C) C.length 1, .i .i64 low, .i .i64 high, x] = some ⟨if ∀ L ∈ Ls, Rng low high L then .tp [.os (nums .u8 (C ++ sgA high d Ls)) (C ++ sgA high d Ls).length 1, .nl] else .tp [.z, .er 2], []⟩ := by
  refine call_by (A := A42) rfl rfl ?_
  have fx := hv.flat
  have lx := hv.lenV
  have d24 := b.d24
  simp (disch := first | assumption | omega | (simp only [lenS]; first | done | omega)) [A42, lx]
  refine w_headsP Ls.length (fun k => ⟨[(16, .i .i64 k), (15, .i .i64 Ls.length), (14, x), (2, .i .i64 high), (1, .i .i64 low), (0, .rs (1000000000) 0 (C ++ sgA high d (Ls.take k)).length 1)], [(1000000000, nums .u8 (C ++ sgA high d (Ls.take k)))]⟩) (fun k => ∀ j (h : j < Ls.length), j < k → Rng low high Ls[j]) (by simp (disch := first | assumption | omega | (simp only [lenS]; first | done | omega)) [sgA]) (fun j _ h => by omega) ?_ ?_
  · intro k hk hp
    have w1 : IntKind.i64.wrap ((k : Int) + 1) = (k : Int) + 1 := i64_in _ (by omega)
    have hix := hv.ix hk
    obtain ⟨u, hu, hU⟩ := hv.get hk
    have fu := hU.flat
    have hlt : (k : Int) < (Ls.length : Int) := by omega
    have hL := hl _ (List.getElem_mem hk)
    have hS := pSigned b hU (by omega) (by rw [hL]; omega)
    by_cases hR : Rng low high Ls[k]
    · rw [if_pos hR] at hS
      have hp2 : ∀ j (h : j < Ls.length), j < k + 1 → Rng low high Ls[j] := fun j h hj => by
        by_cases e : j = k
        · subst e; exact hR
        · exact hp j h (by omega)
      have hs := sgA_len high d (Ls := Ls.take k) fun M hM => hl M (List.mem_of_mem_take hM)
      rw [List.length_take] at hs
      have hk2 : min k Ls.length * (d * 32) ≤ 100 * (24 * 32) := Nat.mul_le_mul (by omega) (by omega)
      have hq := sgB_len high d Ls[k]
      rw [hL] at hq hS
      have hq2 : d * 256 / 8 ≤ 24 * 32 := by omega
      rw [sgA_next high d hk, ← List.append_assoc]
      generalize hT : C ++ sgA high d (Ls.take k) = T at *
      have hTl : T.length ≤ 200000 := by rw [← hT, List.length_append, hs]; omega
      generalize sgB high d Ls[k] = B at *
      rw [← hq] at hS
      have hb1 : ((T.length : Int) + (B.length : Int)) * 1 ≤ 140737488355328 := by omega
      simp (disch := first | assumption | omega | (simp only [lenS]; first | done | omega)) [hlt, hix, hu, hS, w1, hb1, hp2]
      try exact hp2
    · rw [if_neg hR] at hS
      have hne : ¬ ∀ L ∈ Ls, Rng low high L := fun h => hR (h _ (List.getElem_mem hk))
      rw [if_neg hne]
      generalize C ++ sgA high d (Ls.take k) = T at *
      simp (disch := first | assumption | omega | (simp only [lenS]; first | done | omega)) [hlt, hix, hu, hS]
  · intro hp
    have hR : ∀ L ∈ Ls, Rng low high L := fun L hL => by
      obtain ⟨j, hj, rfl⟩ := List.mem_iff_getElem.1 hL
      exact hp j hj (by omega)
    rw [if_pos hR, List.take_length]
    have hTl : (C ++ sgA high d Ls).length = C.length + (sgA high d Ls).length := List.length_append
    generalize C ++ sgA high d Ls = T at *
    simp (disch := first | assumption | omega | (simp only [lenS]; first | done | omega)) [hTl]
set_option maxHeartbeats 8000000 in
theorem dSignedV {low high : Int} {d : Nat} (b : Bnd low high d) {x : AV} {xs : List AV} {Ls : List (List Int)} (hv : IsW (IsL .i64) x xs Ls) (hl : ∀ L ∈ Ls, L.length = 256) (hm : Ls.length ≤ 100) (h0 : 0 < Ls.length) (C : List Int) (hC : C.length ≤ 100000) :
    FF tab 51 [.os (nums .u8 C) C.length 1, .i .i64 low, .i .i64 high, x] = some ⟨if ∀ L ∈ Ls, Rng low high L then .tp [.os (nums .u8 (C ++ sgA high d Ls)) (C ++ sgA high d Ls).length 1, .i .i64 0] else .tp [.z, .i .i64 101], []⟩ := by
  refine call_by (A := A51) rfl rfl ?_
  have fx := hv.flat
  have lx := hv.lenV
  have d24 := b.d24
  simp (disch := first | assumption | omega | (simp only [lenS]; first | done | omega)) [A51, lx]
  refine w_headsP Ls.length (fun k => ⟨[(10, .i .i64 k), (3, x), (2, .i .i64 high), (1, .i .i64 low), (0, .rs (1000000000) 0 (C ++ sgA high d (Ls.take k)).length 1)], [(1000000000, nums .u8 (C ++ sgA high d (Ls.take k)))]⟩) (fun k => ∀ j (h : j < Ls.length), j < k → Rng low high Ls[j]) (by simp (disch := first | assumption | omega | (simp only [lenS]; first | done | omega)) [sgA]) (fun j _ h => by omega) ?_ ?_
  · intro k hk hp
    have w1 : IntKind.i64.wrap ((k : Int) + 1) = (k : Int) + 1 := i64_in _ (by omega)
    have hix := hv.ix hk
    obtain ⟨u, hu, hU⟩ := hv.get hk
    have fu := hU.flat
    have hlt : (k : Int) < (Ls.length : Int) := by omega
    have hL := hl _ (List.getElem_mem hk)
    have hS := dSigned b hU (by omega) (by rw [hL]; omega)
    by_cases hR : Rng low high Ls[k]
    · rw [if_pos hR] at hS
      have hp2 : ∀ j (h : j < Ls.length), j < k + 1 → Rng low high Ls[j] := fun j h hj => by
        by_cases e : j = k
        · subst e; exact hR
        · exact hp j h (by omega)
      have hs := sgA_len high d (Ls := Ls.take k) fun M hM => hl M (List.mem_of_mem_take hM)
      rw [List.length_take] at hs
      have hk2 : min k Ls.length * (d * 32) ≤ 100 * (24 * 32) := Nat.mul_le_mul (by omega) (by omega)
      have hq := sgB_len high d Ls[k]
      rw [hL] at hq hS
      have hq2 : d * 256 / 8 ≤ 24 * 32 := by omega
      rw [sgA_next high d hk, ← List.append_assoc]
      generalize hT : C ++ sgA high d (Ls.take k) = T at *
      have hTl : T.length ≤ 200000 := by rw [← hT, List.length_append, hs]; omega
      generalize sgB high d Ls[k] = B at *
      rw [← hq] at hS
      have hb1 : ((T.length : Int) + (B.length : Int)) * 1 ≤ 140737488355328 := by omega
      simp (disch := first | assumption | omega | (simp only [lenS]; first | done | omega)) [lx, hlt, hix, hu, hS, w1, hb1, hp2]
      try exact hp2
    · rw [if_neg hR] at hS
      have hne : ¬ ∀ L ∈ Ls, Rng low high L := fun h => hR (h _ (List.getElem_mem hk))
      rw [if_neg hne]
      generalize C ++ sgA high d (Ls.take k) = T at *
      simp (disch := first | assumption | omega | (simp only [lenS]; first | done | omega)) [lx, hlt, hix, hu, hS]
  · intro hp
    have hR : ∀ L ∈ Ls, Rng low high L := fun L hL => by
      obtain ⟨j, hj, rfl⟩ := List.mem_iff_getElem.1 hL
      exact hp j hj (by omega)
    rw [if_pos hR, List.take_length]
    have hTl : (C ++ sgA high d Ls).length = C.length + (sgA high d Ls).length := List.length_append
    generalize C ++ sgA high d Ls = T at *
    simp (disch := first | assumption | omega | (simp only [lenS]; first | done | omega)) [lx, hTl]
end Zab.YtbmhaamjajoggaaDoorB
