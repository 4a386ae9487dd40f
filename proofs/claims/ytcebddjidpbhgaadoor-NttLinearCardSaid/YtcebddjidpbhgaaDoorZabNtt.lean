/- Transforms: numbers turned round, layers, remainders; plain arithmetic. No statement of the program stands here. -/
import Derived.Test.YtcebddjidpbhgaaDoorZabSum
namespace Zab
set_option linter.unusedVariables false

/-! ### Lowest bits, turned round -/

def revN : Nat → Nat → Nat
  | 0, _ => 0
  | b + 1, i => 2 * revN b i + i / 2 ^ b % 2
theorem revN_lt (i : Nat) : ∀ b, revN b i < 2 ^ b
  | 0 => by simp [revN]
  | b + 1 => by have := revN_lt i b; simp only [revN, Nat.pow_succ]; omega
theorem revN_low (u c r : Nat) : ∀ b, b ≤ u → revN b (c * 2 ^ u + r) = revN b r
  | 0, _ => rfl
  | b + 1, h => by
    simp only [revN]
    rw [revN_low u c r b (by omega)]
    have e : c * 2 ^ u + r = r + 2 ^ b * (2 * (c * 2 ^ (u - b - 1))) := by
      have : 2 ^ u = 2 ^ b * (2 * 2 ^ (u - b - 1)) := by rw [← Nat.pow_succ', ← Nat.pow_add]; congr 1; omega
      rw [this, Nat.add_comm, ← Nat.mul_assoc, Nat.mul_comm c, Nat.mul_assoc, Nat.mul_left_comm c]
    have e2 : (c * 2 ^ u + r) / 2 ^ b = r / 2 ^ b + 2 * (c * 2 ^ (u - b - 1)) := by rw [e, Nat.add_mul_div_left _ _ (Nat.two_pow_pos b)]
    rw [e2]; omega
theorem revN_cut {u c r : Nat} (hr : r < 2 ^ u) : ∀ v, revN (u + v) (c * 2 ^ u + r) = revN u r * 2 ^ v + revN v c
  | 0 => by simp [revN, revN_low u c r u (Nat.le_refl u)]
  | v + 1 => by
    rw [← Nat.add_assoc]
    simp only [revN]
    rw [revN_cut hr v]
    have e : (c * 2 ^ u + r) / 2 ^ (u + v) = c / 2 ^ v := by
      rw [Nat.pow_add, ← Nat.div_div_eq_div_mul, Nat.mul_comm c, Nat.mul_add_div (Nat.two_pow_pos u), Nat.div_eq_of_lt hr]; simp
    rw [e, Nat.pow_succ]
    have : revN u r * (2 ^ v * 2) = 2 * (revN u r * 2 ^ v) := by rw [← Nat.mul_assoc, Nat.mul_comm]
    omega
theorem revN_dbl (l b : Nat) : revN (l + 1) (2 * b) = revN l b := by
  have := revN_cut (u := 1) (c := b) (r := 0) (by simp) l
  rw [show b * 2 ^ 1 + 0 = 2 * b by omega, Nat.add_comm 1 l] at this
  rw [this]; simp [revN]
theorem revN_odd (l b : Nat) : revN (l + 1) (2 * b + 1) = revN l b + 2 ^ l := by
  have := revN_cut (u := 1) (c := b) (r := 1) (by simp) l
  rw [show b * 2 ^ 1 + 1 = 2 * b + 1 by omega, Nat.add_comm 1 l] at this
  rw [this, show revN 1 1 = 1 from rfl]; omega
/-- The places of the roots. -/
theorem revN_top {d l b : Nat} (hl : l < d) (hb : b < 2 ^ l) : revN d (2 ^ l + b) = 2 ^ (d - 1 - l) * (1 + 2 * revN l b) := by
  have h1 := revN_cut (u := l) (c := 1) (r := b) hb 1
  rw [Nat.one_mul, show revN 1 1 = 1 from rfl] at h1
  have hlt : 2 ^ l + b < 2 ^ (l + 1) := by rw [Nat.pow_succ]; omega
  have h2 := revN_cut (u := l + 1) (c := 0) (r := 2 ^ l + b) hlt (d - 1 - l)
  rw [Nat.zero_mul, Nat.zero_add, show l + 1 + (d - 1 - l) = d by omega, h1] at h2
  have z : ∀ v, revN v 0 = 0 := by
    intro v
    induction v with
    | zero => rfl
    | succ v ih => simp [revN, ih]
  rw [h2, z, Nat.add_zero, Nat.mul_comm]; congr 1; omega
/-- A place, by the first of its bits and the last. -/
theorem revN_place {d l c r : Nat} (hl : l ≤ d) (hr : r < 2 ^ (d - l)) : revN d (c * 2 ^ (d - l) + r) = revN (d - l) r * 2 ^ l + revN l c := by
  have := revN_cut (u := d - l) (c := c) hr l
  rwa [show d - l + l = d by omega] at this

/-! ### A root -/

/-- A ring's numbers: q; N numbers, in 2^d parts of m; a root of -1. -/
structure NRing (q : Int) (N d m : Nat) (g : Int) : Prop where
  q1 : 1 < q
  m0 : 0 < m
  split : N = m * 2 ^ d
  root : Eqm q (g ^ 2 ^ d) (-1)

section
variable {q g : Int} {N d m : Nat}
theorem NRing.round (h : NRing q N d m g) (k : Nat) : Eqm q (g ^ (2 ^ d * (2 * k))) 1 := by
  rw [pow_mul, pow_mul]
  refine (((h.root.pow 2).trans (Eqm.of (by rfl))).pow k).trans (Eqm.of (one_pow k))
theorem NRing.half (h : NRing q N d m g) (k : Nat) : Eqm q (g ^ (2 ^ d * (2 * k + 1))) (-1) := by
  rw [Nat.mul_add, pow_add, Nat.mul_one]
  exact ((h.round k).mul h.root).trans (Eqm.of (by omega))
theorem NRing.turn (h : NRing q N d m g) (e k : Nat) : Eqm q (g ^ (e + 2 ^ d * (2 * k))) (g ^ e) := by
  rw [pow_add]
  exact (Eqm.rfl.mul (h.round k)).trans (Eqm.of (by omega))
theorem NRing.turn1 (h : NRing q N d m g) (e k : Nat) : Eqm q (g ^ (e + 2 ^ d * (2 * k + 1))) (-(g ^ e)) := by
  rw [pow_add]
  exact (Eqm.rfl.mul (h.half k)).trans (Eqm.of (by omega))

/-- How long a part of layer l is. -/
def parts (m d l : Nat) : Nat := m * 2 ^ (d - l)
theorem parts_half {m d l : Nat} (h : l < d) : parts m d l = 2 * parts m d (l + 1) := by
  unfold parts
  rw [show d - l = d - (l + 1) + 1 by omega, Nat.pow_succ, ← Nat.mul_assoc, Nat.mul_comm]
theorem parts_pos {m d l : Nat} (h : 0 < m) : 0 < parts m d l := Nat.mul_pos h (Nat.two_pow_pos _)
theorem parts_all {m d l : Nat} (h : l ≤ d) : 2 ^ l * parts m d l = m * 2 ^ d := by
  unfold parts
  rw [Nat.mul_left_comm, ← Nat.pow_add]; congr 2; omega
/-- What a root is raised by: part b of layer l is X^.. less the root to this. -/
def expo (d l b : Nat) : Nat := 2 ^ (d - l) * (1 + 2 * revN l b)
/-- By what part b of layer l is parted. -/
def expH (d l b : Nat) : Nat := 2 ^ (d - 1 - l) * (1 + 2 * revN l b)
theorem expo_two {d l : Nat} (h : l < d) (b : Nat) : expo d l b = 2 * expH d l b := by
  unfold expo expH
  rw [show d - l = d - 1 - l + 1 by omega, Nat.pow_succ', Nat.mul_assoc]
theorem expo_even {d l : Nat} (h : l < d) (b : Nat) : expo d (l + 1) (2 * b) = expH d l b := by
  unfold expo expH
  rw [revN_dbl, show d - (l + 1) = d - 1 - l by omega]
theorem expo_odd {d l : Nat} (h : l < d) (b : Nat) : expo d (l + 1) (2 * b + 1) = expH d l b + 2 ^ d := by
  unfold expo expH
  rw [revN_odd, show d - (l + 1) = d - 1 - l by omega]
  have : 2 ^ (d - 1 - l) * (2 * 2 ^ l) = 2 ^ d := by rw [← Nat.pow_succ', ← Nat.pow_add]; congr 1; omega
  rw [← this, ← Nat.mul_add]; congr 1; omega
theorem expH_rev {d l b : Nat} (h : l < d) (hb : b < 2 ^ l) : revN d (2 ^ l + b) = expH d l b := revN_top h hb

/-! ### There -/

/-- Number j of part b of layer l. -/
def lay (g : Int) (a : Nat → Int) (m d l b j : Nat) : Int := sumTo (fun k => a (k * parts m d l + j) * g ^ (expo d l b * k)) (2 ^ l)
theorem lay_zero (g : Int) (a : Nat → Int) (m d j : Nat) : lay g a m d 0 0 j = a j := by
  simp [lay, sumTo]
theorem lay_even (h : NRing q N d m g) (a : Nat → Int) {l : Nat} (hl : l < d) (b j : Nat) :
    Eqm q (lay g a m d (l + 1) (2 * b) j) (lay g a m d l b j + g ^ expH d l b * lay g a m d l b (j + parts m d (l + 1))) := by
  unfold lay
  rw [Nat.pow_succ, Nat.mul_comm (2 ^ l) 2, sumTo_even, ← sumTo_mul]
  refine (Eqm.sum fun k _ => Eqm.of ?_).add (Eqm.sum fun k _ => Eqm.of ?_)
  · rw [expo_even hl, expo_two hl, parts_half hl]
    congr 2
    · rw [Nat.mul_comm 2 k, Nat.mul_assoc]
    · rw [Nat.mul_left_comm, Nat.mul_assoc]
  · rw [expo_even hl, expo_two hl, parts_half hl]
    have e1 : (2 * k + 1) * parts m d (l + 1) + j = k * (2 * parts m d (l + 1)) + (j + parts m d (l + 1)) := by
      rw [Nat.add_mul, Nat.one_mul, Nat.mul_comm 2 k, Nat.mul_assoc]; omega
    have e2 : expH d l b * (2 * k + 1) = expH d l b + 2 * expH d l b * k := by rw [Nat.mul_add, Nat.mul_one, Nat.mul_left_comm, Nat.mul_assoc]; omega
    rw [e1, e2, pow_add, Int.mul_left_comm]
theorem lay_odd (h : NRing q N d m g) (a : Nat → Int) {l : Nat} (hl : l < d) (b j : Nat) :
    Eqm q (lay g a m d (l + 1) (2 * b + 1) j) (lay g a m d l b j - g ^ expH d l b * lay g a m d l b (j + parts m d (l + 1))) := by
  unfold lay
  rw [Nat.pow_succ, Nat.mul_comm (2 ^ l) 2, sumTo_even, Int.sub_eq_add_neg, ← sumTo_mul, ← sumTo_neg]
  refine (Eqm.sum fun k _ => ?_).add (Eqm.sum fun k _ => ?_)
  · rw [expo_odd hl, expo_two hl, parts_half hl, Nat.mul_comm 2 k, Nat.mul_assoc k 2]
    refine Eqm.rfl.mul ?_
    rw [Nat.add_mul, show 2 ^ d * (k * 2) = 2 ^ d * (2 * k) by rw [Nat.mul_comm k], show expH d l b * (k * 2) = 2 * expH d l b * k by rw [Nat.mul_comm k, ← Nat.mul_assoc, Nat.mul_comm _ 2]]
    exact h.turn _ k
  · rw [expo_odd hl, expo_two hl, parts_half hl]
    have e1 : (2 * k + 1) * parts m d (l + 1) + j = k * (2 * parts m d (l + 1)) + (j + parts m d (l + 1)) := by
      rw [Nat.add_mul, Nat.one_mul, Nat.mul_comm 2 k, Nat.mul_assoc]; omega
    have e2 : expH d l b * (2 * k + 1) = expH d l b + 2 * expH d l b * k := by rw [Nat.mul_add, Nat.mul_one, Nat.mul_left_comm, Nat.mul_assoc]; omega
    rw [e1, Nat.add_mul, e2]
    refine (Eqm.rfl.mul (h.turn1 _ k)).trans (Eqm.of ?_)
    rw [pow_add, Int.mul_neg, Int.mul_left_comm]

/-- A vector, at layer l. -/
def layL (q g : Int) (a : Nat → Int) (m d l : Nat) : List Int := (List.range (m * 2 ^ d)).map fun p => lay g a m d l (p / parts m d l) (p % parts m d l) % q
theorem layL_len (q g : Int) (a : Nat → Int) (m d l : Nat) : (layL q g a m d l).length = m * 2 ^ d := by simp [layL]
theorem layL_at (q g : Int) (a : Nat → Int) {m d l b j : Nat} (h0 : 0 < m) (hl : l ≤ d) (hb : b < 2 ^ l) (hj : j < parts m d l) : ni (layL q g a m d l) (b * parts m d l + j) = lay g a m d l b j % q := by
  have hlt : b * parts m d l + j < m * 2 ^ d := by
    rw [← parts_all hl]
    have : (b + 1) * parts m d l ≤ 2 ^ l * parts m d l := Nat.mul_le_mul_right _ hb
    rw [Nat.add_mul] at this; omega
  unfold layL
  rw [ni_map hlt, Nat.mul_comm b, Nat.mul_add_div (parts_pos h0), Nat.div_eq_of_lt hj, Nat.add_zero, Nat.mul_add_mod, Nat.mod_eq_of_lt hj]

/-! ### A layer, part by part, pair by pair -/

/-- Is the place p done, when part b has t pairs done? -/
def done (S b t p : Nat) : Bool := decide (p / S < b) || (decide (p / S = b) && decide (p % S % (S / 2) < t))
def mixL (n S : Nat) (F H : List Int) (b t : Nat) : List Int := (List.range n).map fun p => if done S b t p then ni H p else ni F p
theorem mixL_len (n S : Nat) (F H : List Int) (b t : Nat) : (mixL n S F H b t).length = n := by simp [mixL]
theorem mixL_ni {n S : Nat} (F H : List Int) (b t : Nat) {p : Nat} (h : p < n) : ni (mixL n S F H b t) p = if done S b t p then ni H p else ni F p := ni_map h
theorem ni_extL {L M : List Int} (h1 : L.length = M.length) (h : ∀ j, j < L.length → ni L j = ni M j) : L = M := by
  apply List.ext_getElem h1
  intro j p q
  have := h j p
  rwa [ni_get p, ni_get q] at this
theorem mixL_start {n S : Nat} (hS : 0 < S) {F H : List Int} (hF : F.length = n) : mixL n S F H 0 0 = F := by
  refine ni_extL (by rw [mixL_len, hF]) fun p hp => ?_
  rw [mixL_len] at hp
  rw [mixL_ni F H 0 0 hp, if_neg]
  simp [done]
theorem mixL_end {n S B : Nat} (hB : n = B * S) {F H : List Int} (hH : H.length = n) : mixL n S F H B 0 = H := by
  refine ni_extL (by rw [mixL_len, hH]) fun p hp => ?_
  rw [mixL_len] at hp
  rw [mixL_ni F H B 0 hp, if_pos]
  have : p / S < B := Nat.div_lt_of_lt_mul (by rw [Nat.mul_comm, ← hB]; exact hp)
  simp [done, this]
theorem mixL_next {n S s : Nat} (hs : S = 2 * s) (h0 : 0 < s) (F H : List Int) (b : Nat) : mixL n S F H b s = mixL n S F H (b + 1) 0 := by
  unfold mixL
  refine List.map_congr_left fun p _ => ?_
  have : done S b s p = done S (b + 1) 0 p := by
    unfold done
    have e : S / 2 = s := by omega
    have hlt : p % S % s < s := Nat.mod_lt _ h0
    rw [e]
    by_cases h1 : p / S < b
    · simp [h1, show p / S < b + 1 by omega]
    · by_cases h2 : p / S = b
      · simp [h2, hlt]
      · simp [h1, h2, show ¬ p / S < b + 1 by omega]
  rw [this]
theorem mixL_pair {n S s b t : Nat} (hs : S = 2 * s) (h0 : t < s) (hn : b * S + S ≤ n) {F H : List Int} {u v : Int} (hu : ni H (b * S + t) = u) (hv : ni H (b * S + t + s) = v) :
    ni (mixL n S F H b t) (b * S + t) = ni F (b * S + t) ∧ ni (mixL n S F H b t) (b * S + t + s) = ni F (b * S + t + s) ∧
    ((mixL n S F H b t).set (b * S + t) u).set (b * S + t + s) v = mixL n S F H b (t + 1) := by
  have e : S / 2 = s := by omega
  have d1 : (b * S + t) / S = b := by rw [Nat.mul_comm, Nat.mul_add_div (by omega), Nat.div_eq_of_lt (by omega)]; omega
  have r1 : (b * S + t) % S = t := by rw [Nat.mul_comm, Nat.mul_add_mod, Nat.mod_eq_of_lt (by omega)]
  have d2 : (b * S + t + s) / S = b := by rw [Nat.add_assoc, Nat.mul_comm, Nat.mul_add_div (by omega), Nat.div_eq_of_lt (by omega)]; omega
  have r2 : (b * S + t + s) % S = t + s := by rw [Nat.add_assoc, Nat.mul_comm, Nat.mul_add_mod, Nat.mod_eq_of_lt (by omega)]
  have m1 : t % s = t := Nat.mod_eq_of_lt h0
  have m2 : (t + s) % s = t := by rw [Nat.add_mod_right, m1]
  have n1 : done S b t (b * S + t) = false := by simp [done, d1, r1, e, m1]
  have n2 : done S b t (b * S + t + s) = false := by simp [done, d2, r2, e, m2]
  refine ⟨by rw [mixL_ni _ _ _ _ (by omega), n1]; simp, by rw [mixL_ni _ _ _ _ (by omega), n2]; simp, ?_⟩
  refine ni_extL (by simp [mixL]) fun p hp => ?_
  simp only [List.length_set, mixL_len] at hp
  rw [mixL_ni F H b (t + 1) hp]
  by_cases h1 : p = b * S + t + s
  · subst h1
    have : done S b (t + 1) (b * S + t + s) = true := by simp [done, d2, r2, e, m2]
    rw [this, if_pos rfl, hv, ni_get (by simp [mixL]; omega)]; simp
  · by_cases h2 : p = b * S + t
    · subst h2
      have : done S b (t + 1) (b * S + t) = true := by simp [done, d1, r1, e, m1]
      rw [this, if_pos rfl, hu, ni_get (by simp [mixL]; omega)]
      rw [List.getElem_set_ne (by omega)]; simp
    · have same : done S b (t + 1) p = done S b t p := by
        unfold done
        rw [e]
        by_cases h3 : p / S = b
        · have hlt : p % S < S := Nat.mod_lt _ (by omega)
          have hp2 := Nat.div_add_mod p S
          rw [h3, Nat.mul_comm] at hp2
          have hne : p % S % s ≠ t := by
            intro h4
            by_cases h5 : p % S < s
            · rw [Nat.mod_eq_of_lt h5] at h4; omega
            · have : p % S % s = p % S - s := by
                rw [Nat.mod_eq_sub_mod (by omega), Nat.mod_eq_of_lt (by omega)]
              omega
          have : (decide (p % S % s < t + 1)) = (decide (p % S % s < t)) := by
            rw [decide_eq_decide]; omega
          rw [this]
        · simp [h3]
      rw [same, ← mixL_ni F H b t hp, ni_get (by simp [mixL]; omega), ni_get (by simp [mixL]; omega)]
      rw [List.getElem_set_ne (fun h => h1 h.symm), List.getElem_set_ne (fun h => h2 h.symm)]

/-- One pair of a layer: what is there, and what is next. -/
theorem lay_pair (h : NRing q N d m g) (a : Nat → Int) {l b t : Nat} (hl : l < d) (hb : b < 2 ^ l) (ht : t < parts m d (l + 1)) :
    ni (layL q g a m d (l + 1)) (b * parts m d l + t) = (ni (layL q g a m d l) (b * parts m d l + t) + g ^ expH d l b % q * ni (layL q g a m d l) (b * parts m d l + t + parts m d (l + 1)) % q) % q ∧
    ni (layL q g a m d (l + 1)) (b * parts m d l + t + parts m d (l + 1)) = (ni (layL q g a m d l) (b * parts m d l + t) - g ^ expH d l b % q * ni (layL q g a m d l) (b * parts m d l + t + parts m d (l + 1)) % q) % q := by
  have hp := parts_half (m := m) hl
  have e1 : b * parts m d l + t = 2 * b * parts m d (l + 1) + t := by rw [hp, Nat.mul_left_comm, Nat.mul_assoc]
  have e2 : b * parts m d l + t + parts m d (l + 1) = (2 * b + 1) * parts m d (l + 1) + t := by rw [e1, Nat.add_mul, Nat.one_mul]; omega
  have h2 : 2 * b + 1 < 2 ^ (l + 1) := by rw [Nat.pow_succ]; omega
  have x1 := layL_at q g a h.m0 (show l + 1 ≤ d by omega) (show 2 * b < 2 ^ (l + 1) by omega) ht
  have x2 := layL_at q g a h.m0 (show l + 1 ≤ d by omega) h2 ht
  have y1 := layL_at q g a h.m0 (show l ≤ d by omega) hb (show t < parts m d l by omega)
  have y2 := layL_at q g a h.m0 (show l ≤ d by omega) hb (show t + parts m d (l + 1) < parts m d l by omega)
  rw [← Nat.add_assoc] at y2
  have ev := lay_even h a hl b t
  have od := lay_odd h a hl b t
  have hm : Eqm q (g ^ expH d l b % q * (lay g a m d l b (t + parts m d (l + 1)) % q) % q) (g ^ expH d l b * lay g a m d l b (t + parts m d (l + 1))) :=
    (Eqm.mod _ _).trans ((Eqm.mod _ _).mul (Eqm.mod _ _))
  rw [y1, y2]
  constructor
  · rw [e1, x1]
    exact (ev.trans ((Eqm.mod _ _).symm.add hm.symm))
  · rw [e2, x2]
    exact (od.trans ((Eqm.mod _ _).symm.sub hm.symm))
end
end Zab
/- Transforms, back; there and back; products there; plain arithmetic. No statement of the program stands here. -/
namespace Zab
set_option linter.unusedVariables false

section
variable {q g h : Int} {N d m : Nat}

/-- The inverse of a root is a root. -/
theorem NRing.inv (R : NRing q N d m g) (hi : Eqm q (g * h) 1) : NRing q N d m h := by
  refine ⟨R.q1, R.m0, R.split, ?_⟩
  have h1 : Eqm q (g ^ 2 ^ d * h ^ 2 ^ d) 1 := by
    rw [← Int.mul_pow]
    exact (hi.pow _).trans (Eqm.of (one_pow _))
  have h2 : Eqm q (-(h ^ 2 ^ d)) 1 := ((R.root.mul (Eqm.rfl (a := h ^ 2 ^ d))).symm.trans h1).symm.symm |> fun e => (Eqm.of (by omega)).trans e
  have h3 := h2.neg
  rw [Int.neg_neg] at h3
  exact h3

/-! ### Back -/

/-- Number k m + j of part b of layer l, on the way back. -/
def fro (h : Int) (a : Nat → Int) (m d l b k j : Nat) : Int := sumTo (fun r => a ((b * 2 ^ (d - l) + r) * m + j) * h ^ (k * (2 * revN d (b * 2 ^ (d - l) + r) + 1))) (2 ^ (d - l))
theorem fro_first (h : Int) (a : Nat → Int) (m d b j : Nat) : fro h a m d d b 0 j = a (b * m + j) := by
  simp [fro, sumTo]
theorem two_half {d l : Nat} (hl : l < d) : 2 ^ (d - l) = 2 ^ (d - (l + 1)) + 2 ^ (d - (l + 1)) := by
  rw [show d - l = d - (l + 1) + 1 by omega, Nat.pow_succ]; omega
theorem fro_low (h : Int) (a : Nat → Int) {m d l : Nat} (hl : l < d) (b k j : Nat) : fro h a m d l b k j = fro h a m d (l + 1) (2 * b) k j + fro h a m d (l + 1) (2 * b + 1) k j := by
  unfold fro
  have e1 : ∀ r, b * 2 ^ (d - l) + r = 2 * b * 2 ^ (d - (l + 1)) + r := fun r => by rw [two_half hl, ← Nat.two_mul, ← Nat.mul_assoc, Nat.mul_comm b 2]
  have e2 : ∀ r, b * 2 ^ (d - l) + (2 ^ (d - (l + 1)) + r) = (2 * b + 1) * 2 ^ (d - (l + 1)) + r := fun r => by rw [e1, Nat.add_mul, Nat.one_mul]; omega
  rw [two_half hl, sumTo_split, ← two_half hl]
  congr 1
  · exact sumTo_congr fun r _ => by rw [e1]
  · exact sumTo_congr fun r _ => by rw [e2]
theorem fro_exp (R : NRing q N d m h) {l : Nat} (hl : l < d) (b : Nat) {r : Nat} (hr : r < 2 ^ (d - (l + 1))) :
    Eqm q (h ^ (2 ^ (d - (l + 1)) * (2 * revN d (2 * b * 2 ^ (d - (l + 1)) + r) + 1))) (h ^ expH d l b) ∧
    Eqm q (h ^ (2 ^ (d - (l + 1)) * (2 * revN d ((2 * b + 1) * 2 ^ (d - (l + 1)) + r) + 1))) (-(h ^ expH d l b)) := by
  have hp : 2 ^ (d - (l + 1)) * 2 ^ (l + 1) = 2 ^ d := by rw [← Nat.pow_add]; congr 1; omega
  have key : ∀ C x : Nat, 2 ^ (d - (l + 1)) * (2 * (x * 2 ^ (l + 1) + C) + 1) = 2 ^ (d - (l + 1)) * (1 + 2 * C) + 2 ^ d * (2 * x) := by
    intro C x
    rw [← hp, Nat.mul_assoc, ← Nat.mul_add, Nat.mul_left_comm (2 ^ (l + 1)) 2 x, Nat.mul_comm (2 ^ (l + 1)) x]
    congr 1; omega
  have hE : expH d l b = 2 ^ (d - (l + 1)) * (1 + 2 * revN l b) := by unfold expH; rw [show d - 1 - l = d - (l + 1) by omega]
  constructor
  · rw [revN_place (c := 2 * b) (show l + 1 ≤ d by omega) hr, revN_dbl, key, ← hE]
    exact R.turn _ _
  · rw [revN_place (c := 2 * b + 1) (show l + 1 ≤ d by omega) hr, revN_odd, key]
    have : 2 ^ (d - (l + 1)) * (1 + 2 * (revN l b + 2 ^ l)) + 2 ^ d * (2 * revN (d - (l + 1)) r) = expH d l b + 2 ^ d * (2 * revN (d - (l + 1)) r + 1) := by
      rw [hE, Nat.mul_add (2 ^ d), Nat.mul_one]
      have : 2 ^ (d - (l + 1)) * (1 + 2 * (revN l b + 2 ^ l)) = 2 ^ (d - (l + 1)) * (1 + 2 * revN l b) + 2 ^ d := by
        rw [← hp, Nat.pow_succ, ← Nat.mul_add]; congr 1; omega
      omega
    rw [this]
    exact R.turn1 _ _
theorem fro_high (R : NRing q N d m h) (a : Nat → Int) {l : Nat} (hl : l < d) (b k j : Nat) :
    Eqm q (fro h a m d l b (k + 2 ^ (d - (l + 1))) j) (h ^ expH d l b * (fro h a m d (l + 1) (2 * b) k j - fro h a m d (l + 1) (2 * b + 1) k j)) := by
  rw [fro_low h a hl]
  rw [Int.mul_sub, Int.sub_eq_add_neg, ← Int.mul_neg]
  unfold fro
  rw [← sumTo_neg, ← sumTo_mul, ← sumTo_mul]
  refine (Eqm.sum fun r hr => ?_).add (Eqm.sum fun r hr => ?_)
  · rw [Nat.add_mul k (2 ^ (d - (l + 1))), pow_add]
    refine (Eqm.rfl.mul (Eqm.rfl.mul (fro_exp R hl b hr).1)).trans (Eqm.of ?_)
    rw [Int.mul_comm (h ^ expH d l b), Int.mul_assoc]
  · rw [Nat.add_mul k (2 ^ (d - (l + 1))), pow_add]
    refine (Eqm.rfl.mul (Eqm.rfl.mul (fro_exp R hl b hr).2)).trans (Eqm.of ?_)
    rw [Int.mul_comm (h ^ expH d l b), Int.mul_neg, Int.mul_neg, Int.neg_mul, Int.mul_assoc]

/-- A vector, on the way back, at layer l. -/
def froL (q h : Int) (a : Nat → Int) (m d l : Nat) : List Int := (List.range (m * 2 ^ d)).map fun p => fro h a m d l (p / parts m d l) (p % parts m d l / m) (p % parts m d l % m) % q
theorem froL_len (q h : Int) (a : Nat → Int) (m d l : Nat) : (froL q h a m d l).length = m * 2 ^ d := by simp [froL]
theorem froL_at (q h : Int) (a : Nat → Int) {m d l b k j : Nat} (h0 : 0 < m) (hl : l ≤ d) (hb : b < 2 ^ l) (hk : k < 2 ^ (d - l)) (hj : j < m) : ni (froL q h a m d l) (b * parts m d l + (k * m + j)) = fro h a m d l b k j % q := by
  have hkj : k * m + j < parts m d l := by
    unfold parts
    have : (k + 1) * m ≤ 2 ^ (d - l) * m := Nat.mul_le_mul_right _ hk
    rw [Nat.add_mul, Nat.one_mul, Nat.mul_comm (2 ^ (d - l)) m] at this; omega
  have hlt : b * parts m d l + (k * m + j) < m * 2 ^ d := by
    rw [← parts_all hl]
    have : (b + 1) * parts m d l ≤ 2 ^ l * parts m d l := Nat.mul_le_mul_right _ hb
    rw [Nat.add_mul] at this; omega
  unfold froL
  rw [ni_map hlt, Nat.mul_comm b, Nat.mul_add_div (parts_pos h0), Nat.div_eq_of_lt hkj, Nat.add_zero, Nat.mul_add_mod, Nat.mod_eq_of_lt hkj, Nat.mul_comm k, Nat.mul_add_div h0, Nat.div_eq_of_lt hj, Nat.add_zero, Nat.mul_add_mod, Nat.mod_eq_of_lt hj]
/-- One pair of a layer on the way back. -/
theorem fro_pair (R : NRing q N d m h) (a : Nat → Int) {l b t : Nat} (hl : l < d) (hb : b < 2 ^ l) (ht : t < parts m d (l + 1)) {v : Int} (hv : Eqm q v (h ^ expH d l b)) :
    ni (froL q h a m d l) (b * parts m d l + t) = (ni (froL q h a m d (l + 1)) (b * parts m d l + t) + ni (froL q h a m d (l + 1)) (b * parts m d l + t + parts m d (l + 1))) % q ∧
    ni (froL q h a m d l) (b * parts m d l + t + parts m d (l + 1)) = v * ((ni (froL q h a m d (l + 1)) (b * parts m d l + t) - ni (froL q h a m d (l + 1)) (b * parts m d l + t + parts m d (l + 1))) % q) % q := by
  have hp := parts_half (m := m) hl
  have m0 := R.m0
  have hj : t % m < m := Nat.mod_lt _ m0
  have hk : t / m < 2 ^ (d - (l + 1)) := Nat.div_lt_of_lt_mul ht
  have et : t = t / m * m + t % m := by rw [Nat.mul_comm]; exact (Nat.div_add_mod t m).symm
  generalize t / m = k at *
  generalize t % m = j at *
  subst et
  have e1 : b * parts m d l + (k * m + j) = 2 * b * parts m d (l + 1) + (k * m + j) := by rw [hp, Nat.mul_left_comm, Nat.mul_assoc]
  have e2 : b * parts m d l + (k * m + j) + parts m d (l + 1) = (2 * b + 1) * parts m d (l + 1) + (k * m + j) := by rw [e1, Nat.add_mul, Nat.one_mul]; omega
  have e3 : b * parts m d l + (k * m + j) + parts m d (l + 1) = b * parts m d l + ((k + 2 ^ (d - (l + 1))) * m + j) := by
    unfold parts; rw [Nat.add_mul, Nat.mul_comm (2 ^ (d - (l + 1))) m]; omega
  have h2 : 2 * b + 1 < 2 ^ (l + 1) := by rw [Nat.pow_succ]; omega
  have th := two_half hl
  have x1 := froL_at q h a m0 (show l ≤ d by omega) hb (show k < 2 ^ (d - l) by omega) hj
  have x2 := froL_at q h a m0 (show l ≤ d by omega) hb (show k + 2 ^ (d - (l + 1)) < 2 ^ (d - l) by omega) hj
  have y1 := froL_at q h a m0 (show l + 1 ≤ d by omega) (show 2 * b < 2 ^ (l + 1) by omega) hk hj
  have y2 := froL_at q h a m0 (show l + 1 ≤ d by omega) h2 hk hj
  constructor
  · rw [x1, e2, e1, y1, y2, fro_low h a hl]
    exact ((Eqm.mod _ _).symm.add (Eqm.mod _ _).symm)
  · rw [show ni (froL q h a m d l) (b * parts m d l + (k * m + j) + parts m d (l + 1)) = _ by rw [e3, x2], e2, e1, y1, y2]
    exact (fro_high R a hl b k j).trans (hv.symm.mul (((Eqm.mod _ _).symm.sub (Eqm.mod _ _).symm).trans (Eqm.mod _ _).symm))
end

/-! ### Layers as functions: there and back -/

/-- A layer there, of any numbers. -/
def stT (z : Nat → Int) (S s : Nat) (F : Nat → Int) (p : Nat) : Int := if p % S < s then F p + z (p / S) * F (p + s) else F (p - s) - z (p / S) * F p
/-- A layer back. -/
def stF (z : Nat → Int) (S s : Nat) (F : Nat → Int) (p : Nat) : Int := if p % S < s then F p + F (p + s) else z (p / S) * (F (p - s) - F p)
def EqN (q : Int) (n : Nat) (F G : Nat → Int) : Prop := ∀ p, p < n → Eqm q (F p) (G p)
theorem place {S s p : Nat} (hs : S = 2 * s) (h0 : 0 < s) : (p % S < s → (p + s) / S = p / S ∧ (p + s) % S = p % S + s ∧ p + s - s = p) ∧ (¬ p % S < s → (p - s) / S = p / S ∧ (p - s) % S = p % S - s ∧ p - s + s = p ∧ (p - s) % S < s) := by
  have hd := Nat.div_add_mod p S
  have hlt := Nat.mod_lt p (show 0 < S by omega)
  generalize p / S = b at *
  generalize p % S = t at *
  subst hd
  refine ⟨fun h => ⟨?_, ?_, by omega⟩, fun h => ⟨?_, ?_, by omega, ?_⟩⟩
  · rw [Nat.add_assoc, Nat.mul_add_div (by omega), Nat.div_eq_of_lt (by omega), Nat.add_zero]
  · rw [Nat.add_assoc, Nat.mul_add_mod, Nat.mod_eq_of_lt (by omega)]
  · rw [Nat.add_sub_assoc (by omega), Nat.mul_add_div (by omega), Nat.div_eq_of_lt (by omega), Nat.add_zero]
  · rw [Nat.add_sub_assoc (by omega), Nat.mul_add_mod, Nat.mod_eq_of_lt (by omega)]
  · rw [Nat.add_sub_assoc (by omega), Nat.mul_add_mod, Nat.mod_eq_of_lt (by omega)]; omega
theorem stF_stT {q : Int} {z y : Nat → Int} {S s : Nat} (hs : S = 2 * s) (h0 : 0 < s) (hz : ∀ b, Eqm q (z b * y b) 1) (F : Nat → Int) (p : Nat) : Eqm q (stF y S s (stT z S s F) p) (2 * F p) := by
  obtain ⟨pa, pb⟩ := place (p := p) hs h0
  by_cases h : p % S < s
  · obtain ⟨a1, a2, a3⟩ := pa h
    unfold stF stT
    rw [if_pos h, if_pos h, if_neg (by omega), a1, a3]
    exact Eqm.of (by omega)
  · obtain ⟨b1, b2, b3, b4⟩ := pb h
    unfold stF stT
    rw [if_neg h, if_neg h, if_pos b4, b1, b3]
    have : y (p / S) * (F (p - s) + z (p / S) * F p - (F (p - s) - z (p / S) * F p)) = z (p / S) * y (p / S) * (2 * F p) := by
      rw [show F (p - s) + z (p / S) * F p - (F (p - s) - z (p / S) * F p) = z (p / S) * (2 * F p) by rw [Int.mul_left_comm]; omega]
      rw [← Int.mul_assoc, Int.mul_comm (y _)]
    rw [this]
    exact ((hz _).mul Eqm.rfl).trans (Eqm.of (by omega))
theorem stT_stF {q : Int} {z y : Nat → Int} {S s : Nat} (hs : S = 2 * s) (h0 : 0 < s) (hz : ∀ b, Eqm q (z b * y b) 1) (F : Nat → Int) (p : Nat) : Eqm q (stT z S s (stF y S s F) p) (2 * F p) := by
  obtain ⟨pa, pb⟩ := place (p := p) hs h0
  by_cases h : p % S < s
  · obtain ⟨a1, a2, a3⟩ := pa h
    unfold stT
    rw [if_pos h]
    unfold stF
    rw [if_pos h, if_neg (by omega), a1, a3, ← Int.mul_assoc]
    refine (Eqm.rfl.add ((hz _).mul Eqm.rfl)).trans (Eqm.of (by omega))
  · obtain ⟨b1, b2, b3, b4⟩ := pb h
    unfold stT
    rw [if_neg h]
    unfold stF
    rw [if_neg h, if_pos b4, b3, ← Int.mul_assoc]
    refine (Eqm.rfl.sub ((hz _).mul Eqm.rfl)).trans (Eqm.of (by omega))
theorem stT_mul (c : Int) (z : Nat → Int) (S s : Nat) (F : Nat → Int) (p : Nat) : stT z S s (fun p => c * F p) p = c * stT z S s F p := by
  unfold stT
  split
  · rw [Int.mul_add, Int.mul_left_comm]
  · rw [Int.mul_sub, Int.mul_left_comm]
theorem stF_mul (c : Int) (z : Nat → Int) (S s : Nat) (F : Nat → Int) (p : Nat) : stF z S s (fun p => c * F p) p = c * stF z S s F p := by
  unfold stF
  split
  · rw [Int.mul_add]
  · rw [← Int.mul_sub, Int.mul_left_comm]
theorem stT_eq {q : Int} {z z' : Nat → Int} {n S s B : Nat} (hs : S = 2 * s) (h0 : 0 < s) (hn : n = B * S) (hz : ∀ b, b < B → Eqm q (z b) (z' b)) {F G : Nat → Int} (h : EqN q n F G) : EqN q n (stT z S s F) (stT z' S s G) := by
  intro p hp
  obtain ⟨pa, pb⟩ := place (p := p) hs h0
  have hB : p / S < B := Nat.div_lt_of_lt_mul (by rw [Nat.mul_comm, ← hn]; exact hp)
  unfold stT
  by_cases hc : p % S < s
  · obtain ⟨a1, a2, a3⟩ := pa hc
    rw [if_pos hc, if_pos hc]
    have : p + s < n := by
      have h1 := Nat.div_add_mod (p + s) S
      have h2 := Nat.mod_lt (p + s) (show 0 < S by omega)
      rw [a1] at h1
      have : (p / S + 1) * S ≤ B * S := Nat.mul_le_mul_right _ hB
      rw [Nat.add_mul, Nat.one_mul, ← hn, Nat.mul_comm] at this; omega
    exact (h p hp).add ((hz _ hB).mul (h _ this))
  · rw [if_neg hc, if_neg hc]
    exact (h _ (by omega)).sub ((hz _ hB).mul (h p hp))
theorem stF_eq {q : Int} {z z' : Nat → Int} {n S s B : Nat} (hs : S = 2 * s) (h0 : 0 < s) (hn : n = B * S) (hz : ∀ b, b < B → Eqm q (z b) (z' b)) {F G : Nat → Int} (h : EqN q n F G) : EqN q n (stF z S s F) (stF z' S s G) := by
  intro p hp
  obtain ⟨pa, pb⟩ := place (p := p) hs h0
  have hB : p / S < B := Nat.div_lt_of_lt_mul (by rw [Nat.mul_comm, ← hn]; exact hp)
  unfold stF
  by_cases hc : p % S < s
  · obtain ⟨a1, a2, a3⟩ := pa hc
    rw [if_pos hc, if_pos hc]
    have : p + s < n := by
      have h1 := Nat.div_add_mod (p + s) S
      have h2 := Nat.mod_lt (p + s) (show 0 < S by omega)
      rw [a1] at h1
      have : (p / S + 1) * S ≤ B * S := Nat.mul_le_mul_right _ hB
      rw [Nat.add_mul, Nat.one_mul, ← hn, Nat.mul_comm] at this; omega
    exact (h p hp).add (h _ this)
  · rw [if_neg hc, if_neg hc]
    exact (hz _ hB).mul ((h _ (by omega)).sub (h p hp))

section
variable {q g h : Int} {N d m : Nat}
/-- All layers there, from layer 0 on. -/
def allT (g : Int) (m d : Nat) : Nat → (Nat → Int) → Nat → Int
  | 0, F => F
  | l + 1, F => stT (fun b => g ^ expH d l b) (parts m d l) (parts m d (l + 1)) (allT g m d l F)
/-- Layers back, from layer l on to 0. -/
def allF (h : Int) (m d : Nat) : Nat → (Nat → Int) → Nat → Int
  | 0, F => F
  | l + 1, F => allF h m d l (stF (fun b => h ^ expH d l b) (parts m d l) (parts m d (l + 1)) F)
theorem allT_mul (c g : Int) (m d : Nat) : ∀ (l : Nat) (F : Nat → Int) (p : Nat), allT g m d l (fun p => c * F p) p = c * allT g m d l F p
  | 0, F, p => rfl
  | l + 1, F, p => by
    simp only [allT]
    rw [← stT_mul, funext (allT_mul c g m d l F)]
theorem allF_mul (c h : Int) (m d : Nat) : ∀ (l : Nat) (F : Nat → Int) (p : Nat), allF h m d l (fun p => c * F p) p = c * allF h m d l F p
  | 0, F, p => rfl
  | l + 1, F, p => by
    simp only [allF]
    rw [funext (stF_mul c _ (parts m d l) (parts m d (l + 1)) F)]
    exact allF_mul c h m d l _ p
theorem allT_eq (m0 : 0 < m) {F G : Nat → Int} (hFG : EqN q (m * 2 ^ d) F G) : ∀ (l : Nat), l ≤ d → EqN q (m * 2 ^ d) (allT g m d l F) (allT g m d l G)
  | 0, _ => hFG
  | l + 1, hl => stT_eq (B := 2 ^ l) (parts_half (by omega)) (parts_pos m0) (parts_all (by omega)).symm (fun _ _ => Eqm.rfl) (allT_eq m0 hFG l (by omega))
theorem allF_eq (m0 : 0 < m) : ∀ (l : Nat), l ≤ d → ∀ {F G : Nat → Int}, EqN q (m * 2 ^ d) F G → EqN q (m * 2 ^ d) (allF h m d l F) (allF h m d l G)
  | 0, _, _, _, e => e
  | l + 1, hl, _, _, e => allF_eq m0 l (by omega) (stF_eq (B := 2 ^ l) (parts_half (by omega)) (parts_pos m0) (parts_all (by omega)).symm (fun _ _ => Eqm.rfl) e)
theorem pow_inv (hi : Eqm q (g * h) 1) (e : Nat) : Eqm q (g ^ e * h ^ e) 1 := by
  rw [← Int.mul_pow]; exact (hi.pow e).trans (Eqm.of (one_pow e))
/-- There and back. -/
theorem back_there (m0 : 0 < m) (hi : Eqm q (g * h) 1) (F : Nat → Int) : ∀ (l : Nat), l ≤ d → EqN q (m * 2 ^ d) (allF h m d l (allT g m d l F)) (fun p => 2 ^ l * F p)
  | 0, _ => fun p _ => Eqm.of (by simp [allF, allT])
  | l + 1, hl => by
    intro p hp
    have h1 : EqN q (m * 2 ^ d) (stF (fun b => h ^ expH d l b) (parts m d l) (parts m d (l + 1)) (allT g m d (l + 1) F)) (fun p => 2 * allT g m d l F p) := fun p _ =>
      stF_stT (parts_half (by omega)) (parts_pos m0) (fun b => pow_inv hi _) (allT g m d l F) p
    have h2 := allF_eq (h := h) m0 l (by omega) h1 p hp
    simp only [allF]
    refine h2.trans ?_
    rw [allF_mul]
    exact (Eqm.rfl.mul (back_there m0 hi F l (by omega) p hp)).trans (Eqm.of (by rw [Int.pow_succ, ← Int.mul_assoc, Int.mul_comm 2]))
theorem there_back (m0 : 0 < m) (hi : Eqm q (g * h) 1) : ∀ (l : Nat), l ≤ d → ∀ (F : Nat → Int), EqN q (m * 2 ^ d) (allT g m d l (allF h m d l F)) (fun p => 2 ^ l * F p)
  | 0, _, F => fun p _ => Eqm.of (by simp [allF, allT])
  | l + 1, hl, F => by
    intro p hp
    have ih := there_back m0 hi l (by omega) (stF (fun b => h ^ expH d l b) (parts m d l) (parts m d (l + 1)) F)
    have h1 := stT_eq (q := q) (z := fun b => g ^ expH d l b) (z' := fun b => g ^ expH d l b) (B := 2 ^ l) (parts_half (m := m) (show l < d by omega)) (parts_pos m0) (parts_all (by omega)).symm (fun _ _ => Eqm.rfl) ih p hp
    simp only [allF, allT]
    refine h1.trans ?_
    rw [stT_mul]
    exact (Eqm.rfl.mul (stT_stF (parts_half (by omega)) (parts_pos m0) (fun b => pow_inv hi _) F p)).trans (Eqm.of (by rw [Int.pow_succ, Int.mul_assoc]))
/-- The layers' numbers are these. -/
theorem lay_all (R : NRing q N d m g) (a : Nat → Int) : ∀ (l : Nat), l ≤ d → EqN q (m * 2 ^ d) (ni (layL q g a m d l)) (allT g m d l a)
  | 0, _ => by
    intro p hp
    have hp0 : parts m d 0 = m * 2 ^ d := rfl
    have := layL_at q g a (m := m) (d := d) (l := 0) (b := 0) (j := p) R.m0 (by omega) (by simp) (by rw [hp0]; exact hp)
    rw [Nat.zero_mul, Nat.zero_add, lay_zero] at this
    rw [this]; exact Eqm.mod _ _
  | l + 1, hl => by
    intro p hp
    have hs := parts_half (m := m) (show l < d by omega)
    have s0 := parts_pos (m := m) (d := d) (l := l + 1) R.m0
    have ih := stT_eq (q := q) (z := fun b => g ^ expH d l b) (z' := fun b => g ^ expH d l b) (B := 2 ^ l) hs s0 (parts_all (by omega)).symm (fun _ _ => Eqm.rfl) (lay_all R a l (by omega)) p hp
    refine Eqm.trans ?_ ih
    obtain ⟨pa, pb⟩ := place (p := p) hs s0
    have hB : p / parts m d l < 2 ^ l := Nat.div_lt_of_lt_mul (by rw [Nat.mul_comm, parts_all (by omega)]; exact hp)
    have hd := Nat.div_add_mod p (parts m d l)
    rw [Nat.mul_comm] at hd
    unfold stT
    by_cases hc : p % parts m d l < parts m d (l + 1)
    · rw [if_pos hc]
      have := (lay_pair R a (show l < d by omega) hB hc).1
      rw [hd] at this
      rw [this]
      exact (Eqm.mod _ _).trans (Eqm.rfl.add ((Eqm.mod _ _).trans ((Eqm.mod _ _).mul Eqm.rfl)))
    · rw [if_neg hc]
      obtain ⟨b1, b2, b3, b4⟩ := pb hc
      have := (lay_pair R a (show l < d by omega) hB (show p % parts m d l - parts m d (l + 1) < parts m d (l + 1) by omega)).2
      rw [show p / parts m d l * parts m d l + (p % parts m d l - parts m d (l + 1)) + parts m d (l + 1) = p by omega, show p / parts m d l * parts m d l + (p % parts m d l - parts m d (l + 1)) = p - parts m d (l + 1) by omega] at this
      rw [this]
      exact (Eqm.mod _ _).trans (Eqm.rfl.sub ((Eqm.mod _ _).trans ((Eqm.mod _ _).mul Eqm.rfl)))
theorem fro_all (R : NRing q N d m h) (a : Nat → Int) : ∀ (l : Nat), l ≤ d → EqN q (m * 2 ^ d) (allF h m d l (ni (froL q h a m d l))) (ni (froL q h a m d 0))
  | 0, _ => fun p _ => Eqm.rfl
  | l + 1, hl => by
    have hs := parts_half (m := m) (show l < d by omega)
    have s0 := parts_pos (m := m) (d := d) (l := l + 1) R.m0
    have h1 : EqN q (m * 2 ^ d) (stF (fun b => h ^ expH d l b) (parts m d l) (parts m d (l + 1)) (ni (froL q h a m d (l + 1)))) (ni (froL q h a m d l)) := by
      intro p hp
      obtain ⟨pa, pb⟩ := place (p := p) hs s0
      have hB : p / parts m d l < 2 ^ l := Nat.div_lt_of_lt_mul (by rw [Nat.mul_comm, parts_all (by omega)]; exact hp)
      have hd := Nat.div_add_mod p (parts m d l)
      rw [Nat.mul_comm] at hd
      unfold stF
      by_cases hc : p % parts m d l < parts m d (l + 1)
      · rw [if_pos hc]
        have := (fro_pair R a (show l < d by omega) hB hc (v := h ^ expH d l (p / parts m d l)) Eqm.rfl).1
        rw [hd] at this
        rw [this]
        exact (Eqm.mod _ _).symm
      · rw [if_neg hc]
        have := (fro_pair R a (show l < d by omega) hB (show p % parts m d l - parts m d (l + 1) < parts m d (l + 1) by omega) (v := h ^ expH d l (p / parts m d l)) Eqm.rfl).2
        rw [show p / parts m d l * parts m d l + (p % parts m d l - parts m d (l + 1)) + parts m d (l + 1) = p by omega, show p / parts m d l * parts m d l + (p % parts m d l - parts m d (l + 1)) = p - parts m d (l + 1) by omega] at this
        rw [this]
        exact ((Eqm.mod _ _).trans (Eqm.rfl.mul (Eqm.mod _ _))).symm
    intro p hp
    simp only [allF]
    exact (allF_eq R.m0 l (by omega) h1 p hp).trans (fro_all R a l (by omega) p hp)
theorem froL_last (R : NRing q N d m h) (a : Nat → Int) : EqN q (m * 2 ^ d) (ni (froL q h a m d d)) a := by
  intro p hp
  have m0 := R.m0
  have hb : p / m < 2 ^ d := Nat.div_lt_of_lt_mul hp
  have := froL_at q h a (m := m) (d := d) (l := d) (b := p / m) (k := 0) (j := p % m) m0 (Nat.le_refl d) hb (by simp) (Nat.mod_lt _ m0)
  have hpm : parts m d d = m := by simp [parts]
  rw [hpm, fro_first] at this
  have hd : p / m * m + p % m = p := by rw [Nat.mul_comm]; exact Nat.div_add_mod p m
  rw [Nat.zero_mul, Nat.zero_add, hd] at this
  rw [this]; exact Eqm.mod _ _
/-- What comes back is the sum's. -/
theorem fro_there (R : NRing q N d m g) (hi : Eqm q (g * h) 1) (a : Nat → Int) : EqN q (m * 2 ^ d) (ni (froL q h (ni (layL q g a m d d)) m d 0)) (fun p => 2 ^ d * a p) := by
  intro p hp
  have Rh := R.inv hi
  have h1 := (fro_all Rh (ni (layL q g a m d d)) d (Nat.le_refl d) p hp).symm
  have h2 : EqN q (m * 2 ^ d) (ni (froL q h (ni (layL q g a m d d)) m d d)) (allT g m d d a) := fun p hp => (froL_last Rh _ p hp).trans (lay_all R a d (Nat.le_refl d) p hp)
  exact h1.trans ((allF_eq R.m0 d (Nat.le_refl d) h2 p hp).trans (back_there R.m0 hi a d (Nat.le_refl d) p hp))
theorem there_fro (R : NRing q N d m g) (hi : Eqm q (g * h) 1) (a b : Nat → Int) (c : Int) (hb : EqN q (m * 2 ^ d) b (fun p => c * ni (froL q h a m d 0) p)) : EqN q (m * 2 ^ d) (ni (layL q g b m d d)) (fun p => c * 2 ^ d * a p) := by
  intro p hp
  have Rh := R.inv hi
  have h1 := lay_all R b d (Nat.le_refl d) p hp
  have h2 : EqN q (m * 2 ^ d) b (fun p => c * allF h m d d a p) := fun p hp => (hb p hp).trans (Eqm.rfl.mul ((fro_all Rh a d (Nat.le_refl d) p hp).symm.trans (allF_eq R.m0 d (Nat.le_refl d) (froL_last Rh a) p hp)))
  have h3 := allT_eq (g := g) R.m0 h2 d (Nat.le_refl d) p hp
  rw [allT_mul] at h3
  refine h1.trans (h3.trans ((Eqm.rfl.mul (there_back R.m0 hi d (Nat.le_refl d) a p hp)).trans (Eqm.of ?_)))
  show c * (2 ^ d * a p) = c * 2 ^ d * a p
  rw [Int.mul_assoc]
end
end Zab
/- Transforms: products there, sums there, 1 there; plain arithmetic. No statement of the program stands here. -/
namespace Zab
set_option linter.unusedVariables false

section
variable {q g w : Int} {N d m : Nat}

/-- A part's number, of numbers that go on both ways. -/
def phi (w : Int) (m d : Nat) (u : Int → Int) (c : Int) : Int := sumTo (fun k => w ^ k * u (k * m + c)) (2 ^ d)
theorem phi_step (hN : N = m * 2 ^ d) (hw : Eqm q (w ^ 2 ^ d) (-1)) {u : Int → Int} (hu : Anti N u) (c : Int) : Eqm q (phi w m d u c) (w * phi w m d u (c + m)) := by
  unfold phi
  rw [← sumTo_mul]
  have h1 := sumTo_first (fun k => w ^ k * u (k * m + c)) (2 ^ d)
  have h2 : sumTo (fun k => w ^ k * u (k * m + c)) (2 ^ d + 1) = sumTo (fun k => w ^ k * u (k * m + c)) (2 ^ d) + w ^ 2 ^ d * u (((2 ^ d : Nat) : Int) * m + c) := rfl
  have e : ((2 ^ d : Nat) : Int) * m + c = c + N := by rw [hN, Int.natCast_mul, Int.mul_comm]; omega
  rw [e, hu] at h2
  have e0 : w ^ 0 * u (((0 : Nat) : Int) * m + c) = u c := by rw [Int.pow_zero, Int.one_mul]; congr 1; simp
  rw [e0] at h1
  have e1 : sumTo (fun k => w ^ (k + 1) * u (((k + 1 : Nat) : Int) * m + c)) (2 ^ d) = sumTo (fun i => w * (w ^ i * u (i * m + (c + m)))) (2 ^ d) := sumTo_congr fun k _ => by
    rw [Int.pow_succ, Int.mul_comm _ w, Int.mul_assoc]; congr 3
    rw [Int.natCast_add, Int.add_mul]; simp; omega
  rw [e1] at h1
  have h3 : Eqm q (w ^ 2 ^ d * -u c) (u c) := (hw.mul Eqm.rfl).trans (Eqm.of (by omega))
  have h4 : sumTo (fun i => w * (w ^ i * u (i * m + (c + m)))) (2 ^ d) = sumTo (fun k => w ^ k * u (k * m + c)) (2 ^ d) + w ^ 2 ^ d * -u c - u c := by omega
  rw [h4]
  exact ((Eqm.rfl.add h3).sub (Eqm.rfl (a := u c))).symm.symm |> fun e => (Eqm.of (by omega)).trans e.symm
theorem phi_many (hN : N = m * 2 ^ d) (hw : Eqm q (w ^ 2 ^ d) (-1)) {u : Int → Int} (hu : Anti N u) (c : Int) : ∀ k : Nat, Eqm q (phi w m d u (c - k * m)) (w ^ k * phi w m d u c)
  | 0 => Eqm.of (by simp)
  | k + 1 => by
    have h1 := phi_step hN hw hu (c - ((k + 1 : Nat) : Int) * m)
    have e : c - ((k + 1 : Nat) : Int) * m + m = c - k * m := by rw [Int.natCast_add, Int.add_mul]; simp; omega
    rw [e] at h1
    exact h1.trans ((Eqm.rfl.mul (phi_many hN hw hu c k)).trans (Eqm.of (by rw [Int.pow_succ, Int.mul_comm _ w, Int.mul_assoc])))

/-- What number i of the first adds at the place c, modulo X^m - w. -/
def tmz (w : Int) (A B : Nat → Int) (m i c : Nat) : Int := if i ≤ c then A i * B (c - i) else w * (A i * B (m + c - i))
theorem phi_conv (m0 : 0 < m) (hN : N = m * 2 ^ d) (hw : Eqm q (w ^ 2 ^ d) (-1)) {f u : Int → Int} (hu : Anti N u) {c : Nat} (hc : c < m) :
    Eqm q (phi w m d (cvE f u N) c) (sumTo (fun i => tmz w (fun i => phi w m d f i) (fun i => phi w m d u i) m i c) m) := by
  -- the sums in the other order
  have h1 : phi w m d (cvE f u N) c = sumTo (fun i => f i * phi w m d u (c - i)) N := by
    unfold phi cvE
    rw [sumTo_congr fun k _ => (sumTo_mul (w ^ k) (fun i => f i * u (k * m + c - i)) N).symm]
    rw [sumTo_swap (fun k i => w ^ k * (f i * u (k * m + c - i)))]
    refine sumTo_congr fun i _ => ?_
    rw [← sumTo_mul]
    refine sumTo_congr fun k _ => ?_
    rw [Int.mul_left_comm, show ((k : Int) * m + c - i) = k * m + (c - i) by omega]
  rw [h1, hN, Nat.mul_comm m, sumTo_block]
  rw [sumTo_swap (fun k i => f ((k * m + i : Nat) : Int) * phi w m d u (c - ((k * m + i : Nat) : Int)))]
  refine Eqm.sum fun i hi => ?_
  have h2 : Eqm q (sumTo (fun k => f ((k * m + i : Nat) : Int) * phi w m d u (c - ((k * m + i : Nat) : Int))) (2 ^ d)) (sumTo (fun k => f ((k * m + i : Nat) : Int) * (w ^ k * phi w m d u (c - i))) (2 ^ d)) := by
    refine Eqm.sum fun k _ => Eqm.rfl.mul ?_
    have := phi_many hN hw hu (c - i) k
    rwa [show ((c : Int) - i - k * m) = c - ((k * m + i : Nat) : Int) by rw [Int.natCast_add, Int.natCast_mul]; omega] at this
  refine h2.trans ?_
  have h3 : sumTo (fun k => f ((k * m + i : Nat) : Int) * (w ^ k * phi w m d u (c - i))) (2 ^ d) = phi w m d f i * phi w m d u (c - i) := by
    unfold phi
    rw [← sumTo_mulR]
    refine sumTo_congr fun k _ => ?_
    rw [← Int.mul_assoc, Int.mul_comm (f _), show ((k * m + i : Nat) : Int) = (k : Int) * m + i by rw [Int.natCast_add, Int.natCast_mul]]
  rw [h3]
  unfold tmz
  by_cases h : i ≤ c
  · rw [if_pos h, show ((c : Int) - i) = ((c - i : Nat) : Int) by omega]; exact Eqm.rfl
  · rw [if_neg h]
    have := phi_step hN hw hu ((c : Int) - i)
    rw [show ((c : Int) - i + m) = ((m + c - i : Nat) : Int) by omega] at this
    exact (Eqm.rfl.mul this).trans (Eqm.of (by rw [Int.mul_left_comm]))

/-- A part's number, there. -/
theorem lay_phi (R : NRing q N d m g) {a : Nat → Int} {f : Int → Int} (hf : ∀ t : Nat, t < N → Eqm q (a t) (f t)) (p c : Nat) (hc : c < m) :
    Eqm q (lay g a m d d p c) (phi (g ^ (1 + 2 * revN d p)) m d f c) := by
  unfold lay phi
  refine Eqm.sum fun k hk => ?_
  have e1 : parts m d d = m := by simp [parts]
  have e2 : expo d d p = 1 + 2 * revN d p := by simp [expo]
  have hlt : k * m + c < N := by
    rw [R.split]
    have : (k + 1) * m ≤ 2 ^ d * m := Nat.mul_le_mul_right _ hk
    rw [Nat.add_mul, Nat.one_mul, Nat.mul_comm (2 ^ d)] at this; omega
  rw [e1, e2, pow_mul, Int.mul_comm (a _)]
  exact (Eqm.rfl.mul (hf _ hlt)).trans (Eqm.of (by rw [Int.natCast_add, Int.natCast_mul]))
theorem w_root (R : NRing q N d m g) (p : Nat) : Eqm q ((g ^ (1 + 2 * revN d p)) ^ 2 ^ d) (-1) := by
  rw [← pow_mul, Nat.mul_comm, Nat.add_comm 1]
  exact R.half _
/-- A PRODUCT THERE. -/
theorem lay_conv (R : NRing q N d m g) {a b c : Nat → Int} {f u : Int → Int} (hf : ∀ t : Nat, t < N → Eqm q (a t) (f t)) (hu : ∀ t : Nat, t < N → Eqm q (b t) (u t)) (au : Anti N u)
    (hc : ∀ t : Nat, t < N → Eqm q (c t) (cvE f u N t)) (p j : Nat) (hj : j < m) :
    Eqm q (lay g c m d d p j) (sumTo (fun i => tmz (g ^ (1 + 2 * revN d p)) (fun i => lay g a m d d p i) (fun i => lay g b m d d p i) m i j) m) := by
  refine (lay_phi R hc p j hj).trans ((phi_conv R.m0 R.split (w_root R p) au hj).trans (Eqm.sum fun i hi => ?_))
  unfold tmz
  split
  · exact (lay_phi R hf p i hi).symm.mul (lay_phi R hu p _ (by omega)).symm
  · exact Eqm.rfl.mul ((lay_phi R hf p i hi).symm.mul (lay_phi R hu p _ (by omega)).symm)

/-! ### Sums there -/

theorem lay_eq {a b : Nat → Int} (R : NRing q N d m g) {l p j : Nat} (hl : l ≤ d) (hj : j < parts m d l) (h : ∀ t, t < N → Eqm q (a t) (b t)) : Eqm q (lay g a m d l p j) (lay g b m d l p j) := by
  unfold lay
  refine Eqm.sum fun k hk => (h _ ?_).mul Eqm.rfl
  rw [R.split, ← parts_all hl]
  have : (k + 1) * parts m d l ≤ 2 ^ l * parts m d l := Nat.mul_le_mul_right _ hk
  rw [Nat.add_mul, Nat.one_mul] at this; omega
theorem lay_add (g : Int) (a b : Nat → Int) (m d l p j : Nat) : lay g (fun t => a t + b t) m d l p j = lay g a m d l p j + lay g b m d l p j := by
  unfold lay
  rw [← sumTo_add]
  exact sumTo_congr fun k _ => Int.add_mul _ _ _
theorem lay_mul (g c : Int) (a : Nat → Int) (m d l p j : Nat) : lay g (fun t => a t * c) m d l p j = lay g a m d l p j * c := by
  unfold lay
  rw [← sumTo_mulR]
  exact sumTo_congr fun k _ => by rw [Int.mul_assoc, Int.mul_comm c, Int.mul_assoc]
theorem lay_one (g : Int) {m d l : Nat} (h0 : 0 < parts m d l) (p j : Nat) : lay g (fun t => if t = 0 then 1 else 0) m d l p j = if j = 0 then 1 else 0 := by
  unfold lay
  by_cases hj : j = 0
  · subst hj
    rw [if_pos rfl]
    have h1 := sumTo_pick (fun _ => (1 : Int)) 0 (2 ^ l)
    rw [if_pos (Nat.two_pow_pos l)] at h1
    refine Eq.trans (sumTo_congr fun k _ => ?_) h1
    show (if k * parts m d l + 0 = 0 then (1 : Int) else 0) * g ^ (expo d l p * k) = if k = 0 then 1 else 0
    by_cases hk : k = 0
    · subst hk; simp
    · have : k * parts m d l + 0 ≠ 0 := by
        have := Nat.mul_pos (Nat.pos_of_ne_zero hk) h0; omega
      rw [if_neg this, if_neg hk, Int.zero_mul]
  · rw [if_neg hj]
    refine Eq.trans (sumTo_congr fun k _ => ?_) (sumTo_zero (2 ^ l))
    show (if k * parts m d l + j = 0 then (1 : Int) else 0) * g ^ (expo d l p * k) = 0
    rw [if_neg (by omega), Int.zero_mul]
end

/-! ### A product modulo X^m - w, pair by pair, modulo q -/

/-- Which of the second's numbers the first's number i meets at the place c. -/
def hitm (m i c : Nat) : Nat := if i ≤ c then c - i else m + c - i
def rowZ (q w : Int) (A B : Nat → Int) (m i j : Nat) : List Int := (List.range m).map fun c => (sumTo (fun i => tmz w A B m i c) i + if hitm m i c < j then tmz w A B m i c else 0) % q
theorem rowZ_len (q w : Int) (A B : Nat → Int) (m i j : Nat) : (rowZ q w A B m i j).length = m := by simp [rowZ]
theorem rowZ_zero (q w : Int) (A B : Nat → Int) (m : Nat) : rowZ q w A B m 0 0 = List.replicate m 0 := by
  apply List.ext_getElem (by simp [rowZ])
  intro j p r
  simp [rowZ, sumTo]
theorem rowZ_next (q w : Int) (A B : Nat → Int) {m i : Nat} (hi : i < m) : rowZ q w A B m i m = rowZ q w A B m (i + 1) 0 := by
  unfold rowZ
  refine List.map_congr_left fun c hc => ?_
  have hc := List.mem_range.1 hc
  have : hitm m i c < m := by unfold hitm; split <;> omega
  rw [if_pos this, if_neg (by omega)]
  simp only [sumTo, Int.add_zero]
theorem rowZ_end (q w : Int) (A B : Nat → Int) (m : Nat) : rowZ q w A B m m 0 = (List.range m).map fun c => sumTo (fun i => tmz w A B m i c) m % q := by
  unfold rowZ
  refine List.map_congr_left fun c _ => ?_
  rw [if_neg (by omega), Int.add_zero]
theorem rowZ_at {q w : Int} {A B : Nat → Int} {m i j c : Nat} (hc : c < m) : ni (rowZ q w A B m i j) c = (sumTo (fun i => tmz w A B m i c) i + if hitm m i c < j then tmz w A B m i c else 0) % q := ni_map hc
theorem rowZ_set {q w : Int} {A B : Nat → Int} {m i j c : Nat} {v : Int} (hi : i < m) (hj : j < m) (hc : c < m) (h : hitm m i c = j) (hv : Eqm q v (tmz w A B m i c)) :
    (rowZ q w A B m i j).set c ((ni (rowZ q w A B m i j) c + v) % q) = rowZ q w A B m i (j + 1) := by
  apply List.ext_getElem (by simp [rowZ])
  intro k p r
  have hk : k < m := by simpa [rowZ] using r
  simp only [List.getElem_set]
  by_cases e : c = k
  · subst e
    rw [if_pos rfl, rowZ_at hc, if_neg (by omega)]
    simp only [rowZ, List.getElem_map, List.getElem_range]
    rw [if_pos (by omega), Int.add_zero]
    exact (Eqm.mod q _).add hv
  · rw [if_neg e]
    simp only [rowZ, List.getElem_map, List.getElem_range]
    have : hitm m i k ≠ j := by
      intro hk2
      apply e
      unfold hitm at h hk2
      split at h <;> split at hk2 <;> omega
    by_cases h2 : hitm m i k < j
    · rw [if_pos h2, if_pos (by omega)]
    · rw [if_neg h2, if_neg (by omega)]
theorem tmz_low {w : Int} {A B : Nat → Int} {m i j : Nat} (h : i + j < m) : (i + j) % m = i + j ∧ hitm m i (i + j) = j ∧ tmz w A B m i (i + j) = A i * B j := by
  unfold hitm tmz
  rw [if_pos (by omega), if_pos (by omega), show i + j - i = j by omega]
  exact ⟨Nat.mod_eq_of_lt h, rfl, rfl⟩
theorem tmz_high {w : Int} {A B : Nat → Int} {m i j : Nat} (hi : i < m) (hj : j < m) (h : m ≤ i + j) : (i + j) % m = i + j - m ∧ hitm m i (i + j - m) = j ∧ tmz w A B m i (i + j - m) = w * (A i * B j) := by
  unfold hitm tmz
  rw [if_neg (by omega), if_neg (by omega), show m + (i + j - m) - i = j by omega]
  exact ⟨by rw [Nat.mod_eq_sub_mod h, Nat.mod_eq_of_lt (by omega)], rfl, rfl⟩
end Zab
