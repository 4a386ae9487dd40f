/- Loops by the states at their heads; lists of numbers as cells. No statement of the program stands here. -/
import Derived.Test.YtohilcdmockfbaaDoorZabEqs
import Derived.IntWalk
namespace Zab
open Go
set_option linter.unusedVariables false

section
variable {F : CallF} {S : St} {Q : Ex → St → Prop}

/-- A loop whose head is met with so many states, one behind the other; it may be left at each. -/
theorem w_heads {ks kr : List Nat} {a : AC} (n : Nat) (hd : Nat → St) (h0 : S.clean ks kr = hd 0)
    (step : ∀ i, i < n → W F a (hd i) fun e S1 => match e with | .normal => S1.clean ks kr = hd (i + 1) | e => Q e S1)
    (last : W F a (hd n) fun e S1 => match e with | .normal => False | e => Q e S1) : W F (.loop ks kr a) S Q := by
  refine w_rounds (I := fun m S => ∃ i, i ≤ n ∧ m = n - i ∧ S.clean ks kr = hd i) (m := n) ?_ ⟨0, Nat.zero_le _, rfl, h0⟩
  rintro m S ⟨i, hi, rfl, hS⟩
  rw [hS]
  by_cases h : i < n
  · refine (step i h).mono fun e S1 h1 => ?_
    cases e with
    | normal => exact ⟨n - (i + 1), by omega, i + 1, by omega, rfl, h1⟩
    | ret => exact h1
    | exit id => exact h1
  · have : i = n := by omega
    subst this
    refine last.mono fun e S1 h1 => ?_
    cases e with
    | normal => exact h1.elim
    | ret => exact h1
    | exit id => exact h1


/-- The same, with what holds at each head. -/
theorem w_headsP {ks kr : List Nat} {a : AC} (n : Nat) (hd : Nat → St) (P : Nat → Prop) (h0 : S.clean ks kr = hd 0) (p0 : P 0)
    (step : ∀ i, i < n → P i → W F a (hd i) fun e S1 => match e with | .normal => S1.clean ks kr = hd (i + 1) ∧ P (i + 1) | e => Q e S1)
    (last : P n → W F a (hd n) fun e S1 => match e with | .normal => False | e => Q e S1) : W F (.loop ks kr a) S Q := by
  refine w_rounds (I := fun m S => ∃ i, i ≤ n ∧ m = n - i ∧ S.clean ks kr = hd i ∧ P i) (m := n) ?_ ⟨0, Nat.zero_le _, rfl, h0, p0⟩
  rintro m S ⟨i, hi, rfl, hS, hp⟩
  rw [hS]
  by_cases h : i < n
  · refine (step i h hp).mono fun e S1 h1 => ?_
    cases e with
    | normal => exact ⟨n - (i + 1), by omega, i + 1, by omega, rfl, h1⟩
    | ret => exact h1
    | exit id => exact h1
  · have : i = n := by omega
    subst this
    refine (last hp).mono fun e S1 h1 => ?_
    cases e with
    | normal => exact h1.elim
    | ret => exact h1
    | exit id => exact h1

/-- A loop that comes to one of so many states, and what follows from there. -/
theorem w_reach {ks kr : List Nat} {a : AC} (T : Int → St) (R : Int → Prop) (tail : ∀ i, R i → W F a (T i) fun e S1 => match e with | .normal => False | e => Q e S1)
    (reach : ∃ (n : Nat) (hd : Nat → St) (j : Int), S.clean ks kr = hd 0 ∧ hd n = T j ∧ R j ∧ ∀ i, i < n → W F a (hd i) fun e S1 => match e with | .normal => S1.clean ks kr = hd (i + 1) | e => Q e S1) : W F (.loop ks kr a) S Q := by
  obtain ⟨n, hd, j, h0, h1, hR, h2⟩ := reach
  exact w_heads n hd h0 h2 (by rw [h1]; exact tail j hR)

end

/-! ### Lists that are filled -/

/-- The first numbers are there. -/
def fillTo (g : Nat → Int) (N i : Nat) : List Int := (List.range N).map fun j => if j < i then g j else 0
theorem fillTo_len (g : Nat → Int) (N i : Nat) : (fillTo g N i).length = N := by simp [fillTo]
theorem fillTo_zero (g : Nat → Int) (N : Nat) : fillTo g N 0 = List.replicate N 0 := by
  unfold fillTo
  apply List.ext_getElem (by simp)
  intro j p q
  simp
theorem fillTo_all (g : Nat → Int) (N : Nat) : fillTo g N N = (List.range N).map g := by
  unfold fillTo
  apply List.map_congr_left
  intro j hj
  rw [if_pos (List.mem_range.1 hj)]
theorem fillTo_set (g : Nat → Int) {N i : Nat} (h : i < N) : (fillTo g N i).set i (g i) = fillTo g N (i + 1) := by
  unfold fillTo
  apply List.ext_getElem (by simp)
  intro j p q
  simp only [List.getElem_set, List.getElem_map, List.getElem_range]
  by_cases e : i = j
  · subst e; simp
  · simp only [e, if_false]
    by_cases h2 : j < i
    · rw [if_pos h2, if_pos (by omega)]
    · rw [if_neg h2, if_neg (by omega)]

theorem mapTo_succ (g : Nat → Int) (i : Nat) : (List.range (i + 1)).map g = (List.range i).map g ++ [g i] := by
  rw [List.range_succ, List.map_append]; rfl
theorem mapTo_of (f : Int → Int) (L : List Int) : (List.range L.length).map (fun j => f (ni L j)) = L.map f := by
  apply List.ext_getElem (by simp)
  intro j p q
  simp only [List.getElem_map, List.getElem_range]
  rw [ni_get (by simpa using q)]
theorem ni_map {g : Nat → Int} {N j : Nat} (h : j < N) : ni ((List.range N).map g) j = g j := by
  rw [ni_get (by simpa using h)]
  simp

theorem ni_app (L M : List Int) (j : Nat) : ni (L ++ M) j = if j < L.length then ni L j else ni M (j - L.length) := by
  simp only [ni, List.getD_eq_getElem?_getD, List.getElem?_append]
  split <;> rfl

/-- Slices of numbers. -/
def IsLs (k : IntKind) (xs : List AV) (Ls : List (List Int)) : Prop := xs.length = Ls.length ∧ ∀ j (h1 : j < xs.length) (h2 : j < Ls.length), IsL k xs[j] Ls[j]
theorem IsLs.nil (k : IntKind) : IsLs k [] [] := ⟨rfl, fun j h => by simp at h⟩
theorem IsLs.cons {k : IntKind} {x : AV} {L : List Int} {xs : List AV} {Ls : List (List Int)} (h : IsL k x L) (hs : IsLs k xs Ls) : IsLs k (x :: xs) (L :: Ls) :=
  ⟨by simp [hs.1], fun j h1 h2 => by
    cases j with
    | zero => exact h
    | succ j => exact hs.2 j (Nat.lt_of_succ_lt_succ h1) (Nat.lt_of_succ_lt_succ h2)⟩
theorem IsLs.one {k : IntKind} {x : AV} {L : List Int} (h : IsL k x L) : IsLs k [x] [L] := .cons h (.nil k)
theorem IsLs.two {k : IntKind} {x y : AV} {L M : List Int} (h : IsL k x L) (h' : IsL k y M) : IsLs k [x, y] [L, M] := .cons h (.cons h' (.nil k))

end Zab
