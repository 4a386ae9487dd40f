/- High parts as bytes: both functions. -/
import Derived.Test.YtbmhaamjajoggaaDoorZabY
import Derived.Test.YtbmhaamjajoggaaDoorBWirF
namespace Zab.YtbmhaamjajoggaaDoorB
open Go
open Go.IntWalk (i64_in)
set_option maxRecDepth 100000
set_option linter.unusedSimpArgs false
set_option linter.unusedVariables false
attribute [-simp] getElem?_pos

theorem offH (m : Nat) (y : Int) : FF tab 56 [.i .i64 y, .op [.i .i64 m]] = some ⟨.b (decide (y < 0 ∨ (m : Int) ≤ y)), [[.i .i64 m]]⟩ := by
  refine call_by (A := A56) rfl rfl ?_
  by_cases h : y < 0
  · simp (disch := first | assumption | omega | (simp only [lenS]; first | done | omega)) [A56, h]
  · simp (disch := first | assumption | omega | (simp only [lenS]; first | done | omega)) [A56, h]
theorem ixFI {x : AV} {L : List Int} (hx : IsL .i64 x L) (hm : L.length ≤ 1000000) (m : Nat) :
    ∃ r : Int, FF tab 81 [x, .fn 56 [.op [.i .i64 m]]] = some ⟨.i .i64 r, [[.i .i64 m]]⟩ ∧ (0 ≤ r ↔ ∃ k, k < L.length ∧ (ni L k < 0 ∨ (m : Int) ≤ ni L k)) := by
  have fx := hx.flat
  have lx := lenV_isL hx
  have main : ∀ k0, (k0 = L.length ∨ k0 < L.length ∧ (ni L k0 < 0 ∨ (m : Int) ≤ ni L k0)) → (∀ j, j < k0 → ¬ (ni L j < 0 ∨ (m : Int) ≤ ni L j)) → k0 ≤ L.length → FF tab 81 [x, .fn 56 [.op [.i .i64 m]]] = some ⟨.i .i64 (if k0 < L.length then (k0 : Int) else -1), [[.i .i64 m]]⟩ := by
    intro k0 hmm hb hle
    refine call_by (A := A81) rfl rfl ?_
    simp (disch := first | assumption | omega | (simp only [lenS]; first | done | omega)) [A81, lx]
    refine w_heads k0 (fun k => ⟨[(8, .i .i64 k), (7, .i .i64 L.length), (1, .fn 56 [.rf 1000001 0]), (0, x)], [(1000001, [.i .i64 m])]⟩) (by simp (disch := first | assumption | omega | (simp only [lenS]; first | done | omega)) []) ?_ ?_
    · intro k hk
      have w1 : IntKind.i64.wrap ((k : Int) + 1) = (k : Int) + 1 := i64_in _ (by omega)
      have tn : (k : Int).toNat = k := Int.toNat_natCast _
      have ix := ixSV_isL hx (k' := .i64) (j := (k : Int)) (by omega) (by omega)
      rw [tn] at ix
      have gx := nums_get (k := .i64) (L := L) (j := k) (by omega)
      have hf := offH m (ni L k)
      rw [decide_eq_false (hb k hk)] at hf
      have hlt : (k : Int) < (L.length : Int) := by omega
      simp (disch := first | assumption | omega | (simp only [lenS]; first | done | omega)) [hlt, ix, gx, hf, w1]
    · rcases hmm with rfl | ⟨h1, h2⟩
      · rw [if_neg (by omega)]
        simp (disch := first | assumption | omega | (simp only [lenS]; first | done | omega)) []
      · rw [if_pos h1]
        have tn : (k0 : Int).toNat = k0 := Int.toNat_natCast _
        have ix := ixSV_isL hx (k' := .i64) (j := (k0 : Int)) (by omega) (by omega)
        rw [tn] at ix
        have gx := nums_get (k := .i64) (L := L) (j := k0) (by omega)
        have hf := offH m (ni L k0)
        rw [decide_eq_true h2] at hf
        have hlt : (k0 : Int) < (L.length : Int) := by omega
        simp (disch := first | assumption | omega | (simp only [lenS]; first | done | omega)) [hlt, ix, gx, hf]
  rcases first_bad (p := fun j => ¬ (ni L j < 0 ∨ (m : Int) ≤ ni L j)) L.length with h | ⟨k, hk, h1, h2⟩
  · refine ⟨_, main L.length (.inl rfl) h (Nat.le_refl _), ?_⟩
    rw [if_neg (by omega)]
    constructor
    · intro h; omega
    · rintro ⟨k, hk, e⟩; exact absurd e (h k hk)
  · have hk1 := Classical.not_not.1 h1
    refine ⟨_, main k (.inr ⟨hk, hk1⟩) h2 (by omega), ?_⟩
    rw [if_pos hk]
    exact ⟨fun _ => ⟨k, hk, hk1⟩, fun _ => by omega⟩
theorem cFI {x : AV} {L : List Int} (hx : IsL .i64 x L) (hm : L.length ≤ 1000000) (m : Nat) :
    ∃ t, FF tab 55 [x, .fn 56 [.op [.i .i64 m]]] = some ⟨.b t, [[.i .i64 m]]⟩ ∧ (t = true ↔ ∃ k, k < L.length ∧ (ni L k < 0 ∨ (m : Int) ≤ ni L k)) := by
  have fx := hx.flat
  obtain ⟨r, h1, h2⟩ := ixFI hx hm m
  refine ⟨decide (0 ≤ r), ?_, by rw [decide_eq_true_iff]; exact h2⟩
  refine call_by (A := A55) rfl rfl ?_
  simp (disch := first | assumption | omega | (simp only [lenS]; first | done | omega)) [A55, h1]
end Zab.YtbmhaamjajoggaaDoorB
