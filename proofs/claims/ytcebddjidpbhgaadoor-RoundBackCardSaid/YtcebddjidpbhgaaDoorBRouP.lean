/- Rounding: the plain law. -/
import Derived.Test.YtcebddjidpbhgaaDoorBRou2
namespace Zab.YtcebddjidpbhgaaDoorB
open Go
set_option linter.unusedSimpArgs false
set_option linter.unusedVariables false

theorem Right.odd {q : Int} (h : Right q) : q % 2 = 1 := by unfold Right at h; omega

/-- q x + H, divided by P, as far as it goes. -/
theorem upN_lt {q d x : Int} (hq : Right q) (h : Bits q d) (h0 : 0 ≤ x) (h1 : x < P d) : upN q d x < q := by
  have hp := P_bound h.1 h.2.1
  have hh := P_half h.1
  have lo := hq.lo
  have h3 := h.2.2
  unfold upN
  have a1 : q * x ≤ q * (P d - 1) := Int.mul_le_mul_of_nonneg_left (by omega) (by omega)
  rw [Int.mul_sub] at a1
  exact Int.ediv_lt_of_lt_mul (by omega) (by omega)

theorem back {q d x : Int} (hq : Right q) (h : Bits q d) (h0 : 0 ≤ x) (h1 : x < P d) : downN q d (upN q d x) = x := by
  have hp := P_bound h.1 h.2.1
  have hh := P_half h.1
  have lo := hq.lo
  have od := hq.odd
  have h3 := h.2.2
  unfold downN
  have e1 := Int.mul_ediv_add_emod (q * x + P (d - 1)) (P d)
  have r0 := Int.emod_nonneg (q * x + P (d - 1)) (show P d ≠ 0 by omega)
  have r1 := Int.emod_lt_of_pos (q * x + P (d - 1)) (show 0 < P d by omega)
  have e2 : upN q d x * P d = q * x + P (d - 1) - (q * x + P (d - 1)) % P d := by
    have : P d * upN q d x = upN q d x * P d := Int.mul_comm _ _
    unfold upN at this ⊢
    omega
  rw [e2]
  generalize (q * x + P (d - 1)) % P d = r at *
  have e3 : (q * x + P (d - 1) - r + (q - 1) / 2) / q = x := by
    have e4 : q * x + P (d - 1) - r + (q - 1) / 2 = (P (d - 1) - r + (q - 1) / 2) + q * x := by omega
    rw [e4, Int.add_mul_ediv_left _ _ (by omega)]
    have : (P (d - 1) - r + (q - 1) / 2) / q = 0 := Int.ediv_eq_zero_of_lt (by omega) (by omega)
    omega
  rw [e3]
  exact Int.emod_eq_of_lt h0 h1

theorem cen_near {q a b : Int} (hq : Right q) (h : a % q = b % q) (h0 : -((q - 1) / 2) ≤ b) (h1 : b ≤ (q - 1) / 2) : cen q a = b := by
  have lo := hq.lo
  have od := hq.odd
  unfold cen
  rw [h]
  by_cases hb : 0 ≤ b
  · have : b % q = b := Int.emod_eq_of_lt hb (by omega)
    rw [this, if_neg (by omega)]
  · have : b % q = b + q := by
      have : (b + q) % q = b + q := Int.emod_eq_of_lt (by omega) (by omega)
      rw [← this, Int.add_emod_right]
    rw [this, if_pos (by omega)]; omega

theorem loss_le {q d : Int} (hq : Right q) (h : Bits q d) {j : Nat} (hj : (j : Int) < q) : absI (lossAt q d j) ≤ q / P (d + 1) + 1 := by
  have hp := P_bound h.1 h.2.1
  have hh := P_half h.1
  have hh2 : P (d + 1) = 2 * P d := by have := P_half (d := d + 1) (by have := h.1; omega); rwa [show d + 1 - 1 = d by omega] at this
  have lo := hq.lo
  have od := hq.odd
  have h3 := h.2.2
  have j0 : (0 : Int) ≤ j := by omega
  have hla : lossAt q d j = cen q (upN q d (downN q d (j : Int)) - (j : Int)) := rfl
  generalize (j : Int) = J at *
  -- what it comes to before the last mod
  have e1 := Int.mul_ediv_add_emod (J * P d + (q - 1) / 2) q
  have r0 := Int.emod_nonneg (J * P d + (q - 1) / 2) (show q ≠ 0 by omega)
  have r1 := Int.emod_lt_of_pos (J * P d + (q - 1) / 2) (show 0 < q by omega)
  have D0 : 0 ≤ (J * P d + (q - 1) / 2) / q := Int.ediv_nonneg (by have := Int.mul_nonneg j0 (show 0 ≤ P d by omega); omega) (by omega)
  have D1 : (J * P d + (q - 1) / 2) / q ≤ P d := by
    have a1 : J * P d ≤ (q - 1) * P d := Int.mul_le_mul_of_nonneg_right (by omega) (by omega)
    rw [Int.sub_mul] at a1
    have : (J * P d + (q - 1) / 2) / q < P d + 1 := Int.ediv_lt_of_lt_mul (by omega) (by rw [Int.add_mul, Int.mul_comm (P d) q]; omega)
    omega
  have hx : downN q d J = (J * P d + (q - 1) / 2) / q % P d := rfl
  generalize (J * P d + (q - 1) / 2) % q = r at *
  generalize (J * P d + (q - 1) / 2) / q = D at *
  -- the number as it would be without it
  have e2 := Int.mul_ediv_add_emod (q * D + P (d - 1)) (P d)
  have s0 := Int.emod_nonneg (q * D + P (d - 1)) (show P d ≠ 0 by omega)
  have s1 := Int.emod_lt_of_pos (q * D + P (d - 1)) (show 0 < P d by omega)
  have hy : upN q d (downN q d J) % q = (q * D + P (d - 1)) / P d % q := by
    by_cases hD : D = P d
    · have hz : downN q d J = 0 := by rw [hx, hD]; exact Int.emod_self
      rw [hz, hD]
      have u1 : upN q d 0 = 0 := by
        unfold upN
        rw [Int.mul_zero, Int.zero_add]
        exact Int.ediv_eq_zero_of_lt (by omega) (by omega)
      have u2 : (q * P d + P (d - 1)) / P d = q := by
        rw [Int.add_comm, Int.add_mul_ediv_right _ _ (by omega), Int.ediv_eq_zero_of_lt (by omega) (by omega)]; omega
      rw [u1, u2]; simp
    · have hz : downN q d J = D := by rw [hx]; exact Int.emod_eq_of_lt D0 (by omega)
      rw [hz]; rfl
  generalize (q * D + P (d - 1)) % P d = s at *
  generalize (q * D + P (d - 1)) / P d = Y at *
  have t1 := Int.mul_ediv_add_emod q (P (d + 1))
  have t2 := Int.emod_nonneg q (show P (d + 1) ≠ 0 by omega)
  have t3 := Int.emod_lt_of_pos q (show 0 < P (d + 1) by omega)
  generalize q % P (d + 1) = u at *
  have tn : 0 ≤ q / P (d + 1) := Int.ediv_nonneg (by omega) (by omega)
  have tle : q / P (d + 1) ≤ q / 4 := by
    have : 4 * (q / P (d + 1)) ≤ P (d + 1) * (q / P (d + 1)) := Int.mul_le_mul_of_nonneg_right (by omega) tn
    omega
  generalize hT : q / P (d + 1) = T at *
  rw [hh2] at t1 t3
  have f1 : 2 * P d * T = 2 * (P d * T) := by rw [Int.mul_assoc]
  have f2 : J * P d = P d * J := Int.mul_comm _ _
  have up : Y - J ≤ T + 1 := by
    refine Int.not_lt.1 fun hc => ?_
    have : P d * (T + 2) ≤ P d * (Y - J) := Int.mul_le_mul_of_nonneg_left (by omega) (by omega)
    rw [Int.mul_add, Int.mul_sub] at this
    omega
  have dn : -(T + 1) ≤ Y - J := by
    refine Int.not_lt.1 fun hc => ?_
    have : P d * (T + 2) ≤ P d * (J - Y) := Int.mul_le_mul_of_nonneg_left (by omega) (by omega)
    rw [Int.mul_add, Int.mul_sub] at this
    omega
  have hcen : cen q (upN q d (downN q d J) - J) = Y - J := cen_near hq (by rw [Int.sub_emod, hy, ← Int.sub_emod]) (by omega) (by omega)
  rw [hla, hcen]
  unfold absI
  omega

theorem mostTo_le {g : Nat → Int} {B : Int} (hB : 0 ≤ B) : ∀ {n : Nat}, (∀ j, j < n → absI (g j) ≤ B) → mostTo g n ≤ B
  | 0, _ => hB
  | k + 1, h => by
    have h1 := mostTo_le hB (n := k) fun j hj => h j (by omega)
    have h2 := h k (by omega)
    simp only [mostTo]
    omega
theorem lossN_le {q d : Int} (hq : Right q) (h : Bits q d) : lossN q d ≤ q / P (d + 1) + 1 := by
  have hp := P_bound h.1 h.2.1
  have lo := hq.lo
  have hh2 : P (d + 1) = 2 * P d := by have := P_half (d := d + 1) (by have := h.1; omega); rwa [show d + 1 - 1 = d by omega] at this
  have tn : 0 ≤ q / P (d + 1) := Int.ediv_nonneg (by omega) (by omega)
  exact mostTo_le (by omega) fun j hj => loss_le hq h (by omega)
end Zab.YtcebddjidpbhgaaDoorB
