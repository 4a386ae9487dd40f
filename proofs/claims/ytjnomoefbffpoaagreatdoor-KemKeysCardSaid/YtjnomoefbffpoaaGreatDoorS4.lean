/- Parts of the proof, in order. -/
import Derived.Test.YtjnomoefbffpoaaGreatDoorS3
namespace Zab
set_option linter.unusedVariables false
def revN : Nat → Nat → Nat
  | 0, _ => 0
  | b + 1, i => 2 * revN b i + i / 2 ^ b % 2
theorem revN_lt (i : Nat) : ∀ b, revN b i < 2 ^ b
  | 0 => by simp [revN]
  | b + 1 => by have := revN_lt i b; simp only [revN, Nat.pow_succ]; omega
theorem revN_low (u c r : Nat) : ∀ b, b ≤ u → revN b (c * 2 ^ u + r) = revN b r
  | 0, _ => rfl
  | b + 1, h => by
    simp only [revN]
    rw [revN_low u c r b (by omega)]
    have e : c * 2 ^ u + r = r + 2 ^ b * (2 * (c * 2 ^ (u - b - 1))) := by
      have : 2 ^ u = 2 ^ b * (2 * 2 ^ (u - b - 1)) := by rw [← Nat.pow_succ', ← Nat.pow_add]; congr 1; omega
      rw [this, Nat.add_comm, ← Nat.mul_assoc, Nat.mul_comm c, Nat.mul_assoc, Nat.mul_left_comm c]
    have e2 : (c * 2 ^ u + r) / 2 ^ b = r / 2 ^ b + 2 * (c * 2 ^ (u - b - 1)) := by rw [e, Nat.add_mul_div_left _ _ (Nat.two_pow_pos b)]
    rw [e2]; omega
theorem revN_cut {u c r : Nat} (hr : r < 2 ^ u) : ∀ v, revN (u + v) (c * 2 ^ u + r) = revN u r * 2 ^ v + revN v c
  | 0 => by simp [revN, revN_low u c r u (Nat.le_refl u)]
  | v + 1 => by
    rw [← Nat.add_assoc]
    simp only [revN]
    rw [revN_cut hr v]
    have e : (c * 2 ^ u + r) / 2 ^ (u + v) = c / 2 ^ v := by
      rw [Nat.pow_add, ← Nat.div_div_eq_div_mul, Nat.mul_comm c, Nat.mul_add_div (Nat.two_pow_pos u), Nat.div_eq_of_lt hr]; simp
    rw [e, Nat.pow_succ]
    have : revN u r * (2 ^ v * 2) = 2 * (revN u r * 2 ^ v) := by rw [← Nat.mul_assoc, Nat.mul_comm]
    omega
theorem revN_dbl (l b : Nat) : revN (l + 1) (2 * b) = revN l b := by
  have := revN_cut (u := 1) (c := b) (r := 0) (by simp) l
  rw [show b * 2 ^ 1 + 0 = 2 * b by omega, Nat.add_comm 1 l] at this
  rw [this]; simp [revN]
theorem revN_odd (l b : Nat) : revN (l + 1) (2 * b + 1) = revN l b + 2 ^ l := by
  have := revN_cut (u := 1) (c := b) (r := 1) (by simp) l
  rw [show b * 2 ^ 1 + 1 = 2 * b + 1 by omega, Nat.add_comm 1 l] at this
  rw [this, show revN 1 1 = 1 from rfl]; omega
theorem revN_top {d l b : Nat} (hl : l < d) (hb : b < 2 ^ l) : revN d (2 ^ l + b) = 2 ^ (d - 1 - l) * (1 + 2 * revN l b) := by
  have h1 := revN_cut (u := l) (c := 1) (r := b) hb 1
  rw [Nat.one_mul, show revN 1 1 = 1 from rfl] at h1
  have hlt : 2 ^ l + b < 2 ^ (l + 1) := by rw [Nat.pow_succ]; omega
  have h2 := revN_cut (u := l + 1) (c := 0) (r := 2 ^ l + b) hlt (d - 1 - l)
  rw [Nat.zero_mul, Nat.zero_add, show l + 1 + (d - 1 - l) = d by omega, h1] at h2
  have z : ∀ v, revN v 0 = 0 := by
    intro v
    induction v with
    | zero => rfl
    | succ v ih => simp [revN, ih]
  rw [h2, z, Nat.add_zero, Nat.mul_comm]; congr 1; omega
structure NRing (q : Int) (N d m : Nat) (g : Int) : Prop where
  q1 : 1 < q
  m0 : 0 < m
  split : N = m * 2 ^ d
  root : Eqm q (g ^ 2 ^ d) (-1)
section
variable {q g : Int} {N d m : Nat}
theorem NRing.round (h : NRing q N d m g) (k : Nat) : Eqm q (g ^ (2 ^ d * (2 * k))) 1 := by
  rw [pow_mul, pow_mul]
  refine (((h.root.pow 2).trans (Eqm.of (by rfl))).pow k).trans (Eqm.of (one_pow k))
theorem NRing.half (h : NRing q N d m g) (k : Nat) : Eqm q (g ^ (2 ^ d * (2 * k + 1))) (-1) := by
  rw [Nat.mul_add, pow_add, Nat.mul_one]
  exact ((h.round k).mul h.root).trans (Eqm.of (by omega))
theorem NRing.turn (h : NRing q N d m g) (e k : Nat) : Eqm q (g ^ (e + 2 ^ d * (2 * k))) (g ^ e) := by
  rw [pow_add]
  exact (Eqm.rfl.mul (h.round k)).trans (Eqm.of (by omega))
theorem NRing.turn1 (h : NRing q N d m g) (e k : Nat) : Eqm q (g ^ (e + 2 ^ d * (2 * k + 1))) (-(g ^ e)) := by
  rw [pow_add]
  exact (Eqm.rfl.mul (h.half k)).trans (Eqm.of (by omega))
def parts (m d l : Nat) : Nat := m * 2 ^ (d - l)
theorem parts_half {m d l : Nat} (h : l < d) : parts m d l = 2 * parts m d (l + 1) := by
  unfold parts
  rw [show d - l = d - (l + 1) + 1 by omega, Nat.pow_succ, ← Nat.mul_assoc, Nat.mul_comm]
theorem parts_pos {m d l : Nat} (h : 0 < m) : 0 < parts m d l := Nat.mul_pos h (Nat.two_pow_pos _)
theorem parts_all {m d l : Nat} (h : l ≤ d) : 2 ^ l * parts m d l = m * 2 ^ d := by
  unfold parts
  rw [Nat.mul_left_comm, ← Nat.pow_add]; congr 2; omega
def expo (d l b : Nat) : Nat := 2 ^ (d - l) * (1 + 2 * revN l b)
def expH (d l b : Nat) : Nat := 2 ^ (d - 1 - l) * (1 + 2 * revN l b)
theorem expo_two {d l : Nat} (h : l < d) (b : Nat) : expo d l b = 2 * expH d l b := by
  unfold expo expH
  rw [show d - l = d - 1 - l + 1 by omega, Nat.pow_succ', Nat.mul_assoc]
theorem expo_even {d l : Nat} (h : l < d) (b : Nat) : expo d (l + 1) (2 * b) = expH d l b := by
  unfold expo expH
  rw [revN_dbl, show d - (l + 1) = d - 1 - l by omega]
theorem expo_odd {d l : Nat} (h : l < d) (b : Nat) : expo d (l + 1) (2 * b + 1) = expH d l b + 2 ^ d := by
  unfold expo expH
  rw [revN_odd, show d - (l + 1) = d - 1 - l by omega]
  have : 2 ^ (d - 1 - l) * (2 * 2 ^ l) = 2 ^ d := by rw [← Nat.pow_succ', ← Nat.pow_add]; congr 1; omega
  rw [← this, ← Nat.mul_add]; congr 1; omega
theorem expH_rev {d l b : Nat} (h : l < d) (hb : b < 2 ^ l) : revN d (2 ^ l + b) = expH d l b := revN_top h hb
def lay (g : Int) (a : Nat → Int) (m d l b j : Nat) : Int := sumTo (fun k => a (k * parts m d l + j) * g ^ (expo d l b * k)) (2 ^ l)
theorem lay_zero (g : Int) (a : Nat → Int) (m d j : Nat) : lay g a m d 0 0 j = a j := by
  simp [lay, sumTo]
theorem lay_even (h : NRing q N d m g) (a : Nat → Int) {l : Nat} (hl : l < d) (b j : Nat) :
    Eqm q (lay g a m d (l + 1) (2 * b) j) (lay g a m d l b j + g ^ expH d l b * lay g a m d l b (j + parts m d (l + 1))) := by
  unfold lay
  rw [Nat.pow_succ, Nat.mul_comm (2 ^ l) 2, sumTo_even, ← sumTo_mul]
  refine (Eqm.sum fun k _ => Eqm.of ?_).add (Eqm.sum fun k _ => Eqm.of ?_)
  · rw [expo_even hl, expo_two hl, parts_half hl]
    congr 2
    · rw [Nat.mul_comm 2 k, Nat.mul_assoc]
    · rw [Nat.mul_left_comm, Nat.mul_assoc]
  · rw [expo_even hl, expo_two hl, parts_half hl]
    have e1 : (2 * k + 1) * parts m d (l + 1) + j = k * (2 * parts m d (l + 1)) + (j + parts m d (l + 1)) := by
      rw [Nat.add_mul, Nat.one_mul, Nat.mul_comm 2 k, Nat.mul_assoc]; omega
    have e2 : expH d l b * (2 * k + 1) = expH d l b + 2 * expH d l b * k := by rw [Nat.mul_add, Nat.mul_one, Nat.mul_left_comm, Nat.mul_assoc]; omega
    rw [e1, e2, pow_add, Int.mul_left_comm]
theorem lay_odd (h : NRing q N d m g) (a : Nat → Int) {l : Nat} (hl : l < d) (b j : Nat) :
    Eqm q (lay g a m d (l + 1) (2 * b + 1) j) (lay g a m d l b j - g ^ expH d l b * lay g a m d l b (j + parts m d (l + 1))) := by
  unfold lay
  rw [Nat.pow_succ, Nat.mul_comm (2 ^ l) 2, sumTo_even, Int.sub_eq_add_neg, ← sumTo_mul, ← sumTo_neg]
  refine (Eqm.sum fun k _ => ?_).add (Eqm.sum fun k _ => ?_)
  · rw [expo_odd hl, expo_two hl, parts_half hl, Nat.mul_comm 2 k, Nat.mul_assoc k 2]
    refine Eqm.rfl.mul ?_
    rw [Nat.add_mul, show 2 ^ d * (k * 2) = 2 ^ d * (2 * k) by rw [Nat.mul_comm k], show expH d l b * (k * 2) = 2 * expH d l b * k by rw [Nat.mul_comm k, ← Nat.mul_assoc, Nat.mul_comm _ 2]]
    exact h.turn _ k
  · rw [expo_odd hl, expo_two hl, parts_half hl]
    have e1 : (2 * k + 1) * parts m d (l + 1) + j = k * (2 * parts m d (l + 1)) + (j + parts m d (l + 1)) := by
      rw [Nat.add_mul, Nat.one_mul, Nat.mul_comm 2 k, Nat.mul_assoc]; omega
    have e2 : expH d l b * (2 * k + 1) = expH d l b + 2 * expH d l b * k := by rw [Nat.mul_add, Nat.mul_one, Nat.mul_left_comm, Nat.mul_assoc]; omega
    rw [e1, Nat.add_mul, e2]
    refine (Eqm.rfl.mul (h.turn1 _ k)).trans (Eqm.of ?_)
    rw [pow_add, Int.mul_neg, Int.mul_left_comm]
def layL (q g : Int) (a : Nat → Int) (m d l : Nat) : List Int := (List.range (m * 2 ^ d)).map fun p => lay g a m d l (p / parts m d l) (p % parts m d l) % q
theorem layL_len (q g : Int) (a : Nat → Int) (m d l : Nat) : (layL q g a m d l).length = m * 2 ^ d := by simp [layL]
theorem layL_at (q g : Int) (a : Nat → Int) {m d l b j : Nat} (h0 : 0 < m) (hl : l ≤ d) (hb : b < 2 ^ l) (hj : j < parts m d l) : ni (layL q g a m d l) (b * parts m d l + j) = lay g a m d l b j % q := by
  have hlt : b * parts m d l + j < m * 2 ^ d := by
    rw [← parts_all hl]
    have : (b + 1) * parts m d l ≤ 2 ^ l * parts m d l := Nat.mul_le_mul_right _ hb
    rw [Nat.add_mul] at this; omega
  unfold layL
  rw [ni_map hlt, Nat.mul_comm b, Nat.mul_add_div (parts_pos h0), Nat.div_eq_of_lt hj, Nat.add_zero, Nat.mul_add_mod, Nat.mod_eq_of_lt hj]
def done (S b t p : Nat) : Bool := decide (p / S < b) || (decide (p / S = b) && decide (p % S % (S / 2) < t))
def mixL (n S : Nat) (F H : List Int) (b t : Nat) : List Int := (List.range n).map fun p => if done S b t p then ni H p else ni F p
theorem mixL_len (n S : Nat) (F H : List Int) (b t : Nat) : (mixL n S F H b t).length = n := by simp [mixL]
theorem mixL_ni {n S : Nat} (F H : List Int) (b t : Nat) {p : Nat} (h : p < n) : ni (mixL n S F H b t) p = if done S b t p then ni H p else ni F p := ni_map h
theorem ni_extL {L M : List Int} (h1 : L.length = M.length) (h : ∀ j, j < L.length → ni L j = ni M j) : L = M := by
  apply List.ext_getElem h1
  intro j p q
  have := h j p
  rwa [ni_get p, ni_get q] at this
theorem mixL_start {n S : Nat} (hS : 0 < S) {F H : List Int} (hF : F.length = n) : mixL n S F H 0 0 = F := by
  refine ni_extL (by rw [mixL_len, hF]) fun p hp => ?_
  rw [mixL_len] at hp
  rw [mixL_ni F H 0 0 hp, if_neg]
  simp [done]
theorem mixL_end {n S B : Nat} (hB : n = B * S) {F H : List Int} (hH : H.length = n) : mixL n S F H B 0 = H := by
  refine ni_extL (by rw [mixL_len, hH]) fun p hp => ?_
  rw [mixL_len] at hp
  rw [mixL_ni F H B 0 hp, if_pos]
  have : p / S < B := Nat.div_lt_of_lt_mul (by rw [Nat.mul_comm, ← hB]; exact hp)
  simp [done, this]
theorem mixL_next {n S s : Nat} (hs : S = 2 * s) (h0 : 0 < s) (F H : List Int) (b : Nat) : mixL n S F H b s = mixL n S F H (b + 1) 0 := by
  unfold mixL
  refine List.map_congr_left fun p _ => ?_
  have : done S b s p = done S (b + 1) 0 p := by
    unfold done
    have e : S / 2 = s := by omega
    have hlt : p % S % s < s := Nat.mod_lt _ h0
    rw [e]
    by_cases h1 : p / S < b
    · simp [h1, show p / S < b + 1 by omega]
    · by_cases h2 : p / S = b
      · simp [h2, hlt]
      · simp [h1, h2, show ¬ p / S < b + 1 by omega]
  rw [this]
theorem mixL_pair {n S s b t : Nat} (hs : S = 2 * s) (h0 : t < s) (hn : b * S + S ≤ n) {F H : List Int} {u v : Int} (hu : ni H (b * S + t) = u) (hv : ni H (b * S + t + s) = v) :
    ni (mixL n S F H b t) (b * S + t) = ni F (b * S + t) ∧ ni (mixL n S F H b t) (b * S + t + s) = ni F (b * S + t + s) ∧
    ((mixL n S F H b t).set (b * S + t) u).set (b * S + t + s) v = mixL n S F H b (t + 1) := by
  have e : S / 2 = s := by omega
  have d1 : (b * S + t) / S = b := by rw [Nat.mul_comm, Nat.mul_add_div (by omega), Nat.div_eq_of_lt (by omega)]; omega
  have r1 : (b * S + t) % S = t := by rw [Nat.mul_comm, Nat.mul_add_mod, Nat.mod_eq_of_lt (by omega)]
  have d2 : (b * S + t + s) / S = b := by rw [Nat.add_assoc, Nat.mul_comm, Nat.mul_add_div (by omega), Nat.div_eq_of_lt (by omega)]; omega
  have r2 : (b * S + t + s) % S = t + s := by rw [Nat.add_assoc, Nat.mul_comm, Nat.mul_add_mod, Nat.mod_eq_of_lt (by omega)]
  have m1 : t % s = t := Nat.mod_eq_of_lt h0
  have m2 : (t + s) % s = t := by rw [Nat.add_mod_right, m1]
  have n1 : done S b t (b * S + t) = false := by simp [done, d1, r1, e, m1]
  have n2 : done S b t (b * S + t + s) = false := by simp [done, d2, r2, e, m2]
  refine ⟨by rw [mixL_ni _ _ _ _ (by omega), n1]; simp, by rw [mixL_ni _ _ _ _ (by omega), n2]; simp, ?_⟩
  refine ni_extL (by simp [mixL]) fun p hp => ?_
  simp only [List.length_set, mixL_len] at hp
  rw [mixL_ni F H b (t + 1) hp]
  by_cases h1 : p = b * S + t + s
  · subst h1
    have : done S b (t + 1) (b * S + t + s) = true := by simp [done, d2, r2, e, m2]
    rw [this, if_pos rfl, hv, ni_get (by simp [mixL]; omega)]; simp
  · by_cases h2 : p = b * S + t
    · subst h2
      have : done S b (t + 1) (b * S + t) = true := by simp [done, d1, r1, e, m1]
      rw [this, if_pos rfl, hu, ni_get (by simp [mixL]; omega)]
      rw [List.getElem_set_ne (by omega)]; simp
    · have same : done S b (t + 1) p = done S b t p := by
        unfold done
        rw [e]
        by_cases h3 : p / S = b
        · have hlt : p % S < S := Nat.mod_lt _ (by omega)
          have hp2 := Nat.div_add_mod p S
          rw [h3, Nat.mul_comm] at hp2
          have hne : p % S % s ≠ t := by
            intro h4
            by_cases h5 : p % S < s
            · rw [Nat.mod_eq_of_lt h5] at h4; omega
            · have : p % S % s = p % S - s := by
                rw [Nat.mod_eq_sub_mod (by omega), Nat.mod_eq_of_lt (by omega)]
              omega
          have : (decide (p % S % s < t + 1)) = (decide (p % S % s < t)) := by
            rw [decide_eq_decide]; omega
          rw [this]
        · simp [h3]
      rw [same, ← mixL_ni F H b t hp, ni_get (by simp [mixL]; omega), ni_get (by simp [mixL]; omega)]
      rw [List.getElem_set_ne (fun h => h1 h.symm), List.getElem_set_ne (fun h => h2 h.symm)]
theorem lay_pair (h : NRing q N d m g) (a : Nat → Int) {l b t : Nat} (hl : l < d) (hb : b < 2 ^ l) (ht : t < parts m d (l + 1)) :
    ni (layL q g a m d (l + 1)) (b * parts m d l + t) = (ni (layL q g a m d l) (b * parts m d l + t) + g ^ expH d l b % q * ni (layL q g a m d l) (b * parts m d l + t + parts m d (l + 1)) % q) % q ∧
    ni (layL q g a m d (l + 1)) (b * parts m d l + t + parts m d (l + 1)) = (ni (layL q g a m d l) (b * parts m d l + t) - g ^ expH d l b % q * ni (layL q g a m d l) (b * parts m d l + t + parts m d (l + 1)) % q) % q := by
  have hp := parts_half (m := m) hl
  have e1 : b * parts m d l + t = 2 * b * parts m d (l + 1) + t := by rw [hp, Nat.mul_left_comm, Nat.mul_assoc]
  have e2 : b * parts m d l + t + parts m d (l + 1) = (2 * b + 1) * parts m d (l + 1) + t := by rw [e1, Nat.add_mul, Nat.one_mul]; omega
  have h2 : 2 * b + 1 < 2 ^ (l + 1) := by rw [Nat.pow_succ]; omega
  have x1 := layL_at q g a h.m0 (show l + 1 ≤ d by omega) (show 2 * b < 2 ^ (l + 1) by omega) ht
  have x2 := layL_at q g a h.m0 (show l + 1 ≤ d by omega) h2 ht
  have y1 := layL_at q g a h.m0 (show l ≤ d by omega) hb (show t < parts m d l by omega)
  have y2 := layL_at q g a h.m0 (show l ≤ d by omega) hb (show t + parts m d (l + 1) < parts m d l by omega)
  rw [← Nat.add_assoc] at y2
  have ev := lay_even h a hl b t
  have od := lay_odd h a hl b t
  have hm : Eqm q (g ^ expH d l b % q * (lay g a m d l b (t + parts m d (l + 1)) % q) % q) (g ^ expH d l b * lay g a m d l b (t + parts m d (l + 1))) :=
    (Eqm.mod _ _).trans ((Eqm.mod _ _).mul (Eqm.mod _ _))
  rw [y1, y2]
  constructor
  · rw [e1, x1]
    exact (ev.trans ((Eqm.mod _ _).symm.add hm.symm))
  · rw [e2, x2]
    exact (od.trans ((Eqm.mod _ _).symm.sub hm.symm))
end
end Zab
/- Transforms, back; there and back; products there; plain arithmetic. No statement of the program stands here. -/
namespace Zab
set_option linter.unusedVariables false
section
variable {q g h : Int} {N d m : Nat}
theorem NRing.inv (R : NRing q N d m g) (hi : Eqm q (g * h) 1) : NRing q N d m h := by
  refine ⟨R.q1, R.m0, R.split, ?_⟩
  have h1 : Eqm q (g ^ 2 ^ d * h ^ 2 ^ d) 1 := by
    rw [← Int.mul_pow]
    exact (hi.pow _).trans (Eqm.of (one_pow _))
  have h2 : Eqm q (-(h ^ 2 ^ d)) 1 := ((R.root.mul (Eqm.rfl (a := h ^ 2 ^ d))).symm.trans h1).symm.symm |> fun e => (Eqm.of (by omega)).trans e
  have h3 := h2.neg
  rw [Int.neg_neg] at h3
  exact h3
end
def stF (z : Nat → Int) (S s : Nat) (F : Nat → Int) (p : Nat) : Int := if p % S < s then F p + F (p + s) else z (p / S) * (F (p - s) - F p)
section
variable {q g h : Int} {N d m : Nat}
end
end Zab
/- Transforms: products there, sums there, 1 there; plain arithmetic. No statement of the program stands here. -/
namespace Zab
set_option linter.unusedVariables false
section
variable {q g w : Int} {N d m : Nat}
def tmz (w : Int) (A B : Nat → Int) (m i c : Nat) : Int := if i ≤ c then A i * B (c - i) else w * (A i * B (m + c - i))
end
def hitm (m i c : Nat) : Nat := if i ≤ c then c - i else m + c - i
def rowZ (q w : Int) (A B : Nat → Int) (m i j : Nat) : List Int := (List.range m).map fun c => (sumTo (fun i => tmz w A B m i c) i + if hitm m i c < j then tmz w A B m i c else 0) % q
theorem rowZ_len (q w : Int) (A B : Nat → Int) (m i j : Nat) : (rowZ q w A B m i j).length = m := by simp [rowZ]
theorem rowZ_zero (q w : Int) (A B : Nat → Int) (m : Nat) : rowZ q w A B m 0 0 = List.replicate m 0 := by
  apply List.ext_getElem (by simp [rowZ])
  intro j p r
  simp [rowZ, sumTo]
theorem rowZ_next (q w : Int) (A B : Nat → Int) {m i : Nat} (hi : i < m) : rowZ q w A B m i m = rowZ q w A B m (i + 1) 0 := by
  unfold rowZ
  refine List.map_congr_left fun c hc => ?_
  have hc := List.mem_range.1 hc
  have : hitm m i c < m := by unfold hitm; split <;> omega
  rw [if_pos this, if_neg (by omega)]
  simp only [sumTo, Int.add_zero]
theorem rowZ_end (q w : Int) (A B : Nat → Int) (m : Nat) : rowZ q w A B m m 0 = (List.range m).map fun c => sumTo (fun i => tmz w A B m i c) m % q := by
  unfold rowZ
  refine List.map_congr_left fun c _ => ?_
  rw [if_neg (by omega), Int.add_zero]
theorem rowZ_at {q w : Int} {A B : Nat → Int} {m i j c : Nat} (hc : c < m) : ni (rowZ q w A B m i j) c = (sumTo (fun i => tmz w A B m i c) i + if hitm m i c < j then tmz w A B m i c else 0) % q := ni_map hc
theorem rowZ_set {q w : Int} {A B : Nat → Int} {m i j c : Nat} {v : Int} (hi : i < m) (hj : j < m) (hc : c < m) (h : hitm m i c = j) (hv : Eqm q v (tmz w A B m i c)) :
    (rowZ q w A B m i j).set c ((ni (rowZ q w A B m i j) c + v) % q) = rowZ q w A B m i (j + 1) := by
  apply List.ext_getElem (by simp [rowZ])
  intro k p r
  have hk : k < m := by simpa [rowZ] using r
  simp only [List.getElem_set]
  by_cases e : c = k
  · subst e
    rw [if_pos rfl, rowZ_at hc, if_neg (by omega)]
    simp only [rowZ, List.getElem_map, List.getElem_range]
    rw [if_pos (by omega), Int.add_zero]
    exact (Eqm.mod q _).add hv
  · rw [if_neg e]
    simp only [rowZ, List.getElem_map, List.getElem_range]
    have : hitm m i k ≠ j := by
      intro hk2
      apply e
      unfold hitm at h hk2
      split at h <;> split at hk2 <;> omega
    by_cases h2 : hitm m i k < j
    · rw [if_pos h2, if_pos (by omega)]
    · rw [if_neg h2, if_neg (by omega)]
theorem tmz_low {w : Int} {A B : Nat → Int} {m i j : Nat} (h : i + j < m) : (i + j) % m = i + j ∧ hitm m i (i + j) = j ∧ tmz w A B m i (i + j) = A i * B j := by
  unfold hitm tmz
  rw [if_pos (by omega), if_pos (by omega), show i + j - i = j by omega]
  exact ⟨Nat.mod_eq_of_lt h, rfl, rfl⟩
theorem tmz_high {w : Int} {A B : Nat → Int} {m i j : Nat} (hi : i < m) (hj : j < m) (h : m ≤ i + j) : (i + j) % m = i + j - m ∧ hitm m i (i + j - m) = j ∧ tmz w A B m i (i + j - m) = w * (A i * B j) := by
  unfold hitm tmz
  rw [if_neg (by omega), if_neg (by omega), show m + (i + j - m) - i = j by omega]
  exact ⟨by rw [Nat.mod_eq_sub_mod h, Nat.mod_eq_of_lt (by omega)], rfl, rfl⟩
end Zab
namespace Zab.Fermat
set_option linter.unusedVariables false
def ch : Nat → Nat → Nat
  | _, 0 => 1
  | 0, _ + 1 => 0
  | n + 1, k + 1 => ch n k + ch n (k + 1)
theorem ch_zero (n : Nat) : ch n 0 = 1 := by cases n <;> rfl
theorem ch_mul : ∀ n k, (k + 1) * ch (n + 1) (k + 1) = (n + 1) * ch n k
  | 0, 0 => rfl
  | 0, k + 1 => by simp [ch]
  | n + 1, 0 => by
    have h := ch_mul n 0
    simp only [ch, ch_zero] at h ⊢
    omega
  | n + 1, k + 1 => by
    have h1 := ch_mul n (k + 1)
    have h2 := ch_mul n k
    have e1 : ch (n + 2) (k + 2) = ch (n + 1) (k + 1) + ch (n + 1) (k + 2) := rfl
    have e2 : ch (n + 1) (k + 1) = ch n k + ch n (k + 1) := rfl
    show (k + 2) * ch (n + 2) (k + 2) = (n + 2) * ch (n + 1) (k + 1)
    have h1' : (k + 2) * ch (n + 1) (k + 2) = (n + 1) * ch n (k + 1) := h1
    rw [e1, Nat.mul_add, h1']
    have h3 : (k + 2) * ch (n + 1) (k + 1) = ch (n + 1) (k + 1) + (n + 1) * ch n k := by
      rw [← h2, Nat.add_mul, Nat.add_mul]; omega
    have h4 : (n + 2) * ch (n + 1) (k + 1) = ch (n + 1) (k + 1) + ((n + 1) * ch n k + (n + 1) * ch n (k + 1)) := by
      rw [← Nat.mul_add, ← e2, Nat.add_mul, Nat.add_mul]; omega
    omega
def S (n x : Nat) : Nat → Nat
  | 0 => 0
  | m + 1 => S n x m + ch n m * x ^ m
def Pr (p : Nat) : Prop := 2 ≤ p ∧ ∀ m, m ∣ p → m = 1 ∨ m = p
theorem Pr.cop {p : Nat} (h : Pr p) {k : Nat} (h0 : ¬ p ∣ k) : Nat.Coprime p k := by
  rcases h.2 _ (Nat.gcd_dvd_left p k) with e | e
  · exact e
  · exact absurd (e ▸ Nat.gcd_dvd_right p k) h0
theorem Pr.ch {p : Nat} (h : Pr p) {k : Nat} (h1 : 0 < k) (h2 : k < p) : p ∣ ch p k := by
  obtain ⟨n, rfl⟩ : ∃ n, p = n + 1 := ⟨p - 1, by omega⟩
  obtain ⟨j, rfl⟩ : ∃ j, k = j + 1 := ⟨k - 1, by omega⟩
  have e := ch_mul n j
  have hd : n + 1 ∣ (j + 1) * Fermat.ch (n + 1) (j + 1) := ⟨_, e⟩
  exact (h.cop fun hh => by have := Nat.le_of_dvd (by omega) hh; omega).dvd_of_dvd_mul_left hd
end Zab.Fermat
