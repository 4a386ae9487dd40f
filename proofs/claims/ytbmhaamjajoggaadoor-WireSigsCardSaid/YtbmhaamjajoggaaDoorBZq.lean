/- What the functions of the first chapter give back. -/
import Derived.Test.YtbmhaamjajoggaaDoorZabY
import Derived.Test.YtbmhaamjajoggaaDoorZabG6
import Derived.Test.YtbmhaamjajoggaaDoorBAbs
namespace Zab.YtbmhaamjajoggaaDoorB
open Go
open Go.IntWalk (i64_in)
set_option maxRecDepth 100000
set_option linter.unusedSimpArgs false
set_option linter.unusedVariables false
attribute [-simp] getElem?_pos

/-- One of the seven. -/
def Right (p : Int) : Prop := p = 17 ∨ p = 97 ∨ p = 257 ∨ p = 3329 ∨ p = 7681 ∨ p = 12289 ∨ p = 8380417
theorem Right.lo {p : Int} (h : Right p) : 17 ≤ p := by unfold Right at h; omega
theorem Right.hi {p : Int} (h : Right p) : p ≤ 8380417 := by unfold Right at h; omega

theorem tmod_two (a : Int) {p : Int} (h : 0 < p) : (0 ≤ a.tmod p ∧ a.tmod p = a % p) ∨ (a.tmod p < 0 ∧ a.tmod p + p = a % p) := by
  have h1 := Int.emod_nonneg a (show p ≠ 0 by omega)
  have h2 := Int.emod_lt_of_pos a h
  have h3 := Int.emod_nonneg (-a) (show p ≠ 0 by omega)
  have h4 := Int.emod_lt_of_pos (-a) h
  have e : (-a) % p = if a % p = 0 then 0 else p - a % p := by
    split
    · rename_i h
      exact Int.emod_eq_zero_of_dvd (Int.dvd_neg.2 (Int.dvd_of_emod_eq_zero h))
    · rename_i hne
      have h5 : (-a) = (p - a % p) + p * (-(a / p) - 1) := by
        have := Int.mul_ediv_add_emod a p
        have e1 : p * (-(a / p) - 1) = -(p * (a / p)) - p := by rw [Int.mul_sub, Int.mul_neg]; omega
        omega
      rw [h5, Int.add_mul_emod_self_left]
      exact Int.emod_eq_of_lt (by omega) (by omega)
  rw [tmod_eq]
  by_cases ha : 0 ≤ a
  · rw [if_pos ha]; left; exact ⟨h1, rfl⟩
  · rw [if_neg ha, e]
    by_cases h0 : a % p = 0
    · rw [if_pos h0]; left; omega
    · rw [if_neg h0]; right; omega

theorem prod_bound {x y p : Int} (h : Right p) (x0 : 0 ≤ x) (x1 : x < p) (y0 : 0 ≤ y) (y1 : y < p) : 0 ≤ x * y ∧ x * y ≤ 70231389093889 := by
  have hi := h.hi
  have h1 : x * y ≤ 8380417 * 8380417 := Int.mul_le_mul (by omega) (by omega) y0 (by omega)
  exact ⟨Int.mul_nonneg x0 y0, by omega⟩

theorem pow_mod (a p : Int) : ∀ n : Nat, (a % p) ^ n % p = a ^ n % p
  | 0 => by simp
  | n + 1 => by
    rw [Int.pow_succ, Int.pow_succ, Int.mul_emod, pow_mod a p n, Int.emod_emod, ← Int.mul_emod]

theorem sq_pow (x : Int) : ∀ n : Nat, (x * x) ^ n = x ^ (2 * n)
  | 0 => by simp
  | n + 1 => by
    rw [Int.pow_succ, sq_pow x n, show 2 * (n + 1) = 2 * n + 1 + 1 by omega, Int.pow_succ, Int.pow_succ, Int.mul_assoc]

theorem odd_round (x out p : Int) (n : Nat) (h : n % 2 = 1) : (out * x % p) * (x * x % p) ^ (n / 2) % p = out * x ^ n % p := by
  rw [Int.mul_emod, pow_mod, Int.emod_emod, ← Int.mul_emod, sq_pow]
  have e : n = 2 * (n / 2) + 1 := by omega
  conv => rhs; rw [e, Int.pow_succ]
  congr 1
  rw [Int.mul_assoc, Int.mul_comm x]

theorem even_round (x out p : Int) (n : Nat) (h : n % 2 = 0) : out * (x * x % p) ^ (n / 2) % p = out * x ^ n % p := by
  rw [Int.mul_emod, pow_mod, ← Int.mul_emod, sq_pow]
  have e : n = 2 * (n / 2) := by omega
  conv => rhs; rw [e]

end Zab.YtbmhaamjajoggaaDoorB
