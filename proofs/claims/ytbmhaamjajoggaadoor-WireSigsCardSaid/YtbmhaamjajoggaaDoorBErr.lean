/- Errors as numbers; rings, vectors: what is amiss. -/
import Derived.Test.YtbmhaamjajoggaaDoorZabY
import Derived.Test.YtbmhaamjajoggaaDoorBZq
import Derived.Test.YtbmhaamjajoggaaDoorZabG6
namespace Zab.YtbmhaamjajoggaaDoorB
open Go
open Go.IntWalk (i64_in)
set_option maxRecDepth 100000
set_option linter.unusedSimpArgs false
set_option linter.unusedVariables false
attribute [-simp] getElem?_pos

/-- The error with this number. -/
def errV : Nat → AV
  | 101 => .er 2
  | 102 => .er 0
  | 103 => .er 3
  | 104 => .er 1
  | 105 => .er 4
  | 106 => .er 5
  | 107 => .er 6
  | 108 => .er 7
  | _ => .nl
theorem errV_flat (c : Nat) : (errV c).flat = true := by unfold errV; split <;> rfl
/-- A number of an error, or none. -/
def Code (c : Nat) : Prop := c = 0 ∨ c = 101 ∨ c = 102 ∨ c = 103 ∨ c = 104 ∨ c = 105 ∨ c = 106 ∨ c = 107 ∨ c = 108
theorem errV_eq {c : Nat} (h : Code c) : binV .ifaceC .eql (errV c) .nl = some (.b (decide (c = 0))) := by
  rcases h with rfl | rfl | rfl | rfl | rfl | rfl | rfl | rfl | rfl <;> rfl
theorem errV_ne {c : Nat} (h : Code c) : binV .ifaceC .neq (errV c) .nl = some (.b (!decide (c = 0))) := by
  rcases h with rfl | rfl | rfl | rfl | rfl | rfl | rfl | rfl | rfl <;> rfl

/-- Degrees that may be. -/
def Deg (n : Int) : Prop := n = 4 ∨ n = 8 ∨ n = 16 ∨ n = 32 ∨ n = 64 ∨ n = 128 ∨ n = 256
theorem Deg.lo {n : Int} (h : Deg n) : 4 ≤ n := by unfold Deg at h; omega
theorem Deg.hi {n : Int} (h : Deg n) : n ≤ 256 := by unfold Deg at h; omega
instance (n : Int) : Decidable (Deg n) := by unfold Deg; infer_instance
instance (p : Int) : Decidable (Right p) := by unfold Right; infer_instance

def valid (q n : Int) : Nat := if Right q ∧ Deg n then 0 else 101
theorem valid_code (q n : Int) : Code (valid q n) := by unfold valid Code; split <;> simp

/-- All are numbers modulo q. -/
def Mods (q : Int) (L : List Int) : Prop := ∀ x ∈ L, 0 ≤ x ∧ x < q
instance (q : Int) (L : List Int) : Decidable (Mods q L) := by unfold Mods; infer_instance
def vecBad (q n : Int) (L : List Int) : Nat := if valid q n ≠ 0 then 101 else if (L.length : Int) ≠ n then 102 else if Mods q L then 0 else 101
theorem vecBad_code (q n : Int) (L : List Int) : Code (vecBad q n L) := by unfold vecBad Code; split <;> (try split) <;> (try split) <;> simp
theorem vecBad_zero {q n : Int} {L : List Int} : vecBad q n L = 0 ↔ Right q ∧ Deg n ∧ (L.length : Int) = n ∧ Mods q L := by
  unfold vecBad valid
  by_cases h1 : Right q ∧ Deg n
  · by_cases h2 : (L.length : Int) = n
    · by_cases h3 : Mods q L
      · simp [h1, h2, h3]
      · simp [h1, h2, h3]
    · simp [h1, h2]
  · simp [h1]
    intro a b
    exact absurd ⟨a, b⟩ h1

theorem mods_step {q : Int} {L : List Int} (h : ∀ j, j < L.length → 0 ≤ ni L j ∧ ni L j < q) : Mods q L := by
  intro x hx
  obtain ⟨j, hj, rfl⟩ := List.mem_iff_getElem.1 hx
  have := h j hj
  rwa [ni_get hj] at this
theorem mods_at {q : Int} {L : List Int} (h : Mods q L) {j : Nat} (hj : j < L.length) : 0 ≤ ni L j ∧ ni L j < q := by
  rw [ni_get hj]
  exact h _ (List.getElem_mem hj)

end Zab.YtbmhaamjajoggaaDoorB
