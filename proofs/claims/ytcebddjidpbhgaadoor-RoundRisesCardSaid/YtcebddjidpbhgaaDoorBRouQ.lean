/- What rises stays so: the plain law. -/
import Derived.Test.YtcebddjidpbhgaaDoorBRouF
namespace Zab.YtcebddjidpbhgaaDoorB
open Go
open Go.IntWalk (i64_in)
set_option maxRecDepth 100000
set_option linter.unusedSimpArgs false
set_option linter.unusedVariables false

/-- How many numbers below t come to i. -/
def cnt (q d : Int) : Nat → Nat → Int
  | 0, _ => 0
  | t + 1, i => cnt q d t i + if downN q d t = i then 1 else 0
def lastAt (q d : Int) : Nat → Int
  | 0 => 0
  | t + 1 => downN q d t
def okStep (q d : Int) (t : Nat) : Bool := decide (downN q d t = lastAt q d t ∨ downN q d t = lastAt q d t + 1 ∨ (downN q d t = 0 ∧ lastAt q d t = P d - 1))
def okAll (q d : Int) : Nat → Bool
  | 0 => true
  | t + 1 => okStep q d t && okAll q d t
theorem okAll_at {q d : Int} : ∀ {n t : Nat}, okAll q d n = true → t < n → okStep q d t = true
  | n + 1, t, h, ht => by
    simp only [okAll, Bool.and_eq_true] at h
    by_cases e : t = n
    · subst e; exact h.1
    · exact okAll_at h.2 (by omega)
def okD (q d : Int) : Bool := okAll q d q.toNat && (List.range (P d).toNat).all (fun i => decide (q / P d ≤ cnt q d q.toNat i ∧ cnt q d q.toNat i ≤ q / P d + 1)) && decide (lastAt q d q.toNat = 0 ∨ q < 2 * P d)
theorem okD_all : ∀ q ∈ [(17 : Int), 97, 257, 3329], ∀ d ∈ [(1 : Int), 2, 3, 4], okD q d = true := by decide +kernel
theorem okD_of {q d : Int} (h : okD q d = true) : (∀ t, t < q.toNat → downN q d t = lastAt q d t ∨ downN q d t = lastAt q d t + 1 ∨ (downN q d t = 0 ∧ lastAt q d t = P d - 1)) ∧ (∀ i, i < (P d).toNat → q / P d ≤ cnt q d q.toNat i ∧ cnt q d q.toNat i ≤ q / P d + 1) ∧ (lastAt q d q.toNat = 0 ∨ q < 2 * P d) := by
  unfold okD at h
  simp only [Bool.and_eq_true, List.all_eq_true, decide_eq_true_eq, List.mem_range] at h
  exact ⟨fun t ht => by have := okAll_at h.1.1 ht; unfold okStep at this; simpa using this, h.1.2, h.2⟩

/-- The counts, as a list. -/
def cl (q d : Int) (M t : Nat) : List Int := (List.range M).map fun i => cnt q d t i
theorem cl_len (q d : Int) (M t : Nat) : (cl q d M t).length = M := by simp [cl]
theorem cl_ni {q d : Int} {M t i : Nat} (h : i < M) : ni (cl q d M t) i = cnt q d t i := ni_map h
theorem cl_zero (q d : Int) (M : Nat) : cl q d M 0 = List.replicate M 0 := by
  apply List.ext_getElem (by simp [cl])
  intro j p r
  simp [cl, cnt]
theorem cl_step {q d : Int} {M t : Nat} (h0 : 0 ≤ downN q d t) (h1 : (downN q d t).toNat < M) : (cl q d M t).set (downN q d t).toNat (ni (cl q d M t) (downN q d t).toNat + 1) = cl q d M (t + 1) := by
  rw [cl_ni h1]
  apply List.ext_getElem (by simp [cl])
  intro j p r
  simp only [List.getElem_set, cl, List.getElem_map, List.getElem_range, cnt]
  by_cases e : (downN q d t).toNat = j
  · subst e
    rw [if_pos rfl, if_pos (by omega)]
  · rw [if_neg e, if_neg (by omega)]; omega
theorem cnt_bound (q d : Int) (i : Nat) : ∀ t, 0 ≤ cnt q d t i ∧ cnt q d t i ≤ t
  | 0 => ⟨Int.le_refl _, Int.le_refl _⟩
  | t + 1 => by
    have := cnt_bound q d i t
    simp only [cnt]
    split <;> omega
theorem lastAt_bound {q d : Int} (hb : Bits q d) : ∀ t, 0 ≤ lastAt q d t ∧ lastAt q d t < P d
  | 0 => by have := P_bound hb.1 hb.2.1; simp only [lastAt]; omega
  | t + 1 => downN_bound hb

def riseL : List Int := [17, 97, 257, 3329]
theorem riseL_in {j : Nat} (h : j < 4) : ni riseL j ∈ [(17 : Int), 97, 257, 3329] := by
  have : j = 0 ∨ j = 1 ∨ j = 2 ∨ j = 3 := by omega
  rcases this with rfl | rfl | rfl | rfl <;> simp [ni, riseL]
theorem mn2 (a b : Int) : minV (.i .i64 a) [.i .i64 b] = some (.i .i64 (min a b)) := by
  simp only [minV, decide_true, cond_true]
  congr 2
  split <;> omega

end Zab.YtcebddjidpbhgaaDoorB
