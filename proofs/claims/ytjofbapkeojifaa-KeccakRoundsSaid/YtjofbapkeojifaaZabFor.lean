/- Loops by the states at their heads; lists of numbers as cells. No statement of the program stands here. -/
import Derived.Test.YtjofbapkeojifaaZabSim
import Derived.IntWalk
namespace Zab
open Go
set_option linter.unusedVariables false

section
variable {F : CallF} {S : St} {Q : Ex → St → Prop}

/-- A loop whose head is met with so many states, one behind the other; it may be left at each. -/
theorem w_heads {ks kr : List Nat} {a : AC} (n : Nat) (hd : Nat → St) (h0 : S.clean ks kr = hd 0)
    (step : ∀ i, i < n → W F a (hd i) fun e S1 => match e with | .normal => S1.clean ks kr = hd (i + 1) | e => Q e S1)
    (last : W F a (hd n) fun e S1 => match e with | .normal => False | e => Q e S1) : W F (.loop ks kr a) S Q := by
  refine w_rounds (I := fun m S => ∃ i, i ≤ n ∧ m = n - i ∧ S.clean ks kr = hd i) (m := n) ?_ ⟨0, Nat.zero_le _, rfl, h0⟩
  rintro m S ⟨i, hi, rfl, hS⟩
  rw [hS]
  by_cases h : i < n
  · refine (step i h).mono fun e S1 h1 => ?_
    cases e with
    | normal => exact ⟨n - (i + 1), by omega, i + 1, by omega, rfl, h1⟩
    | ret => exact h1
    | exit id => exact h1
  · have : i = n := by omega
    subst this
    refine last.mono fun e S1 h1 => ?_
    cases e with
    | normal => exact h1.elim
    | ret => exact h1
    | exit id => exact h1


/-- The same, with what holds at each head. -/
theorem w_headsP {ks kr : List Nat} {a : AC} (n : Nat) (hd : Nat → St) (P : Nat → Prop) (h0 : S.clean ks kr = hd 0) (p0 : P 0)
    (step : ∀ i, i < n → P i → W F a (hd i) fun e S1 => match e with | .normal => S1.clean ks kr = hd (i + 1) ∧ P (i + 1) | e => Q e S1)
    (last : P n → W F a (hd n) fun e S1 => match e with | .normal => False | e => Q e S1) : W F (.loop ks kr a) S Q := by
  refine w_rounds (I := fun m S => ∃ i, i ≤ n ∧ m = n - i ∧ S.clean ks kr = hd i ∧ P i) (m := n) ?_ ⟨0, Nat.zero_le _, rfl, h0, p0⟩
  rintro m S ⟨i, hi, rfl, hS, hp⟩
  rw [hS]
  by_cases h : i < n
  · refine (step i h hp).mono fun e S1 h1 => ?_
    cases e with
    | normal => exact ⟨n - (i + 1), by omega, i + 1, by omega, rfl, h1⟩
    | ret => exact h1
    | exit id => exact h1
  · have : i = n := by omega
    subst this
    refine (last hp).mono fun e S1 h1 => ?_
    cases e with
    | normal => exact h1.elim
    | ret => exact h1
    | exit id => exact h1

end
end Zab
