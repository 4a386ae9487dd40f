/- What the functions of the fourth chapter give back: the permutation, in the program's words. -/
import Derived.Test.YtjnomoefbffpoaaDoorZabY
import Derived.Test.YtjnomoefbffpoaaDoorZabG8
import Derived.KernelRfl
import Derived.Test.YtjnomoefbffpoaaDoorBAbs
namespace Zab.YtjnomoefbffpoaaDoorB
open Go
open Go.IntWalk (i64_in)
set_option maxRecDepth 100000
set_option linter.unusedSimpArgs false
set_option linter.unusedVariables false
attribute [-simp] getElem?_pos

theorem RotL (x : Ln) {n : Nat} (h : n < 64) : FF tab 88 [.i .u64 (iv x), .i .i64 (n : Int)] = some ⟨.i .u64 (iv (rot x n)), []⟩ := by
  refine call_by (A := A88) rfl rfl ?_
  have e1 : IntKind.u64.wrap (n : Int) = (n : Int) := by
    unfold IntKind.wrap
    simp only [IntKind.signed, IntKind.bits]
    simp
    omega
  have e2 : bitV .and .u64 (n : Int) 63 = some (.i .u64 (n : Int)) := by
    have e : (n : Int) = iv (BitVec.ofNat 64 n) := by unfold iv; simp; omega
    rw [show (63 : Int) = iv 63#64 from rfl]
    conv => lhs; rw [e]
    rw [bitV_and]
    congr 2
    have : ((BitVec.ofNat 64 n) &&& 63#64).toNat = n := by
      rw [BitVec.toNat_and]
      simp only [BitVec.toNat_ofNat]
      rw [Nat.mod_eq_of_lt (by omega), show (63 % 2 ^ 64) = 2 ^ 6 - 1 from rfl, Nat.and_two_pow_sub_one_eq_mod]
      omega
    exact congrArg _ this
  have e3 : IntKind.u64.wrap (64 - (n : Int)) = ((64 - n : Nat) : Int) := by
    unfold IntKind.wrap
    simp only [IntKind.signed, IntKind.bits]
    simp
    omega
  simp (disch := omega) [A88, e1, e2, e3, shl_u64 x (show n ≤ 64 by omega), shr_u64 x (show 64 - n ≤ 64 by omega), bitV_or]
  rfl

theorem ab_bound : ∀ t, 0 ≤ (ab t).1 ∧ (ab t).1 < 5 ∧ 0 ≤ (ab t).2 ∧ (ab t).2 < 5
  | 0 => by simp [ab]
  | t + 1 => by
    obtain ⟨h1, h2, h3, h4⟩ := ab_bound t
    simp only [ab]
    omega

theorem Turn (x y : Int) : FF tab 89 [.i .i64 x, .i .i64 y] = some ⟨.i .i64 (turn x y), []⟩ := by
  refine call_by (A := A89) rfl rfl ?_
  simp (disch := omega) [A89]
  refine w_headsP 24 (fun i => ⟨[(8, .i .i64 i), (6, .i .i64 (ab i).2), (5, .i .i64 (ab i).1), (1, .i .i64 y), (0, .i .i64 x)], []⟩) (fun i => turn x y = turnF x y i (24 - i)) (by simp [ab]) rfl ?_ ?_
  · intro i hi hp
    obtain ⟨h1, h2, h3, h4⟩ := ab_bound i
    have e : 24 - i = (24 - (i + 1)) + 1 := by omega
    rw [e, turnF] at hp
    have hlt : (i : Int) < 24 := by omega
    have w1 : IntKind.i64.wrap ((i : Int) + 1) = (i : Int) + 1 := i64_in _ (by omega)
    have w2 : IntKind.i64.wrap ((i : Int) + 2) = (i : Int) + 2 := i64_in _ (by omega)
    have w3 : IntKind.i64.wrap (2 * (ab i).1) = 2 * (ab i).1 := i64_in _ (by omega)
    have w4 : IntKind.i64.wrap (3 * (ab i).2) = 3 * (ab i).2 := i64_in _ (by omega)
    have w5 : IntKind.i64.wrap (2 * (ab i).1 + 3 * (ab i).2) = 2 * (ab i).1 + 3 * (ab i).2 := i64_in _ (by omega)
    have w6 : (2 * (ab i).1 + 3 * (ab i).2).tmod 5 = (2 * (ab i).1 + 3 * (ab i).2) % 5 := Int.tmod_eq_emod_of_nonneg (by omega)
    by_cases ha : (ab i).1 = x
    · by_cases hb : (ab i).2 = y
      · rw [if_pos ⟨ha, hb⟩] at hp
        have k1 : ((i : Int) + 1) * ((i : Int) + 2) ≤ 24 * 25 := Int.mul_le_mul (by omega) (by omega) (by omega) (by omega)
        have k0 : 0 ≤ ((i : Int) + 1) * ((i : Int) + 2) := Int.mul_nonneg (by omega) (by omega)
        have w7 : IntKind.i64.wrap (((i : Int) + 1) * ((i : Int) + 2)) = ((i : Int) + 1) * ((i : Int) + 2) := i64_in _ (by omega)
        have w8 : (((i : Int) + 1) * ((i : Int) + 2)).tdiv 2 = ((i : Int) + 1) * ((i : Int) + 2) / 2 := Int.tdiv_eq_ediv_of_nonneg k0
        have w9 : IntKind.i64.wrap (((i : Int) + 1) * ((i : Int) + 2) / 2) = ((i : Int) + 1) * ((i : Int) + 2) / 2 := i64_in _ (by omega)
        have w10 : (((i : Int) + 1) * ((i : Int) + 2) / 2).tmod 64 = ((i : Int) + 1) * ((i : Int) + 2) / 2 % 64 := Int.tmod_eq_emod_of_nonneg (by omega)
        simp [hlt, ha, hb, w1, w2, w7, w8, w9, w10]
        rw [hp]; rfl
      · rw [if_neg (fun h => hb h.2)] at hp
        simp [hlt, ha, hb]
        rw [ha] at w3 w5 w6
        simp [w1, w3, w4, w5, w6]
        exact ⟨by simp [ab, ha], by rw [hp]; congr 1; omega⟩
    · rw [if_neg (fun h => ha h.1)] at hp
      simp [hlt, ha, w1, w3, w4, w5, w6]
      exact ⟨⟨rfl, rfl⟩, by rw [hp]; congr 1; omega⟩
  · intro hp
    simp []
    rw [hp]; rfl

theorem turn_ok : ∀ x y : Nat, x < 5 → y < 5 → turn x y = (tn x y : Int) ∧ tn x y < 64 := by
  intro x y hx hy
  have h : ∀ a : Fin 5, ∀ b : Fin 5, turn (a.val : Int) (b.val : Int) = (tn a.val b.val : Int) ∧ tn a.val b.val < 64 := by decide +kernel
  exact h ⟨x, hx⟩ ⟨y, hy⟩

set_option maxHeartbeats 4000000 in
theorem Constant (i : Int) : FF tab 90 [.i .i64 i] = some ⟨.i .u64 (iv (con i)), []⟩ := by
  refine call_by (A := A90) rfl rfl ?_
  by_cases h : i < 0 ∨ 24 ≤ i
  · rw [show con i = 0 from if_pos h]
    by_cases h1 : i < 0
    · simp (disch := omega) [A90, h1]; rfl
    · have h2 : 24 ≤ i := by omega
      simp (disch := omega) [A90, h1, h2]; rfl
  · obtain ⟨n, rfl⟩ : ∃ n : Nat, i = n := ⟨i.toNat, by omega⟩
    have hn : n < 24 := by omega
    have h1 : ¬ (n : Int) < 0 := by omega
    have h2 : ¬ 24 ≤ (n : Int) := by omega
    have w1 : IntKind.i64.wrap ((n : Int) + 1) = (n : Int) + 1 := i64_in _ (by omega)
    have w2 : IntKind.i64.wrap (7 * ((n : Int) + 1)) = 7 * ((n : Int) + 1) := i64_in _ (by omega)
    have w3 : IntKind.i64.wrap (7 * (n : Int)) = 7 * (n : Int) := i64_in _ (by omega)
    have hc : con (n : Int) = outC n (7 * (n + 1)) := by unfold con; rw [if_neg h, Int.toNat_natCast]
    rw [hc]
    have hN : 0 ≤ (n : Int) ∧ (n : Int) < 24 := by omega
    generalize hT0 : (n : Int) = N at *
    simp (disch := omega) [A90, h1, h2, w1, w2]
    refine w_heads (7 * (n + 1)) (fun t => ⟨[(17, .i .i64 t), (16, .i .i64 (7 * (N + 1))), (4, .i .u8 (ib (row t))), (3, .i .u64 (iv (outC n t))), (0, .i .i64 N)], []⟩) (by simp [row, outC, iv, ib]) ?_ ?_
    · intro t ht
      have er : row (t + 1) = nextB (row t) := rfl
      have e1 := u8_and1 (row t)
      have e2 := u8_shl (row t)
      have e3 := u8_xor (row t <<< 1)
      have e4 := u8_top (row t)
      have hlt : (t : Int) < 7 * (N + 1) := by omega
      by_cases ha : 7 * n ≤ t
      · have hj : t - 7 * n ≤ 6 := by omega
        have hJ : (t : Int) - 7 * N = ((t - 7 * n : Nat) : Int) := by omega
        have eo : outC n (t + 1) = if low (row t) = true then outC n t ||| ((1#64) <<< (2 ^ (t - 7 * n) - 1)) else outC n t := by
          simp only [outC, ha, true_and]
        obtain ⟨s1, s2, s3⟩ := shl1 hj
        have s4 := shl1' s3
        rw [← hJ] at s1
        generalize ((2 ^ (t - 7 * n) : Nat) : Int) = P at *
        generalize ((2 ^ (t - 7 * n) - 1 : Nat) : Int) = P' at *
        generalize hT : (t : Int) = T at *
        have a1 : (0 : Int) ≤ T - 7 * N := by omega
        have w4 : IntKind.i64.wrap (T + 1) = T + 1 := i64_in _ (by omega)
        have w5 : IntKind.i64.wrap (T - 7 * N) = T - 7 * N := i64_in _ (by omega)
        generalize row t = r at *
        generalize outC n t = o at *
        cases hb : low r <;> cases hh : top r <;> simp [hb, hh, bI, nextB] at e1 e4 eo er <;>
          simp (disch := omega) [hlt, a1, w3, w4, w5, e1, e2, e3, e4, s1, s2, s4, bitV_or, eo, er, hT]
      · have eo : outC n (t + 1) = outC n t := by simp only [outC]; rw [if_neg (fun h => ha h.1)]
        generalize hT : (t : Int) = T at *
        have a1 : ¬ (0 : Int) ≤ T - 7 * N := by omega
        have a2 : T - 7 * N < 0 := by omega
        have w4 : IntKind.i64.wrap (T + 1) = T + 1 := i64_in _ (by omega)
        have w5 : IntKind.i64.wrap (T - 7 * N) = T - 7 * N := i64_in _ (by omega)
        generalize row t = r at *
        cases hh : top r <;> simp [hh, nextB] at e4 er <;>
          simp (disch := omega) [hlt, a1, a2, w3, w4, w5, e1, e2, e3, e4, eo, er, hT]
    · have e : ((7 * (n + 1) : Nat) : Int) = 7 * (N + 1) := by omega
      simp only [e]
      simp []
end Zab.YtjnomoefbffpoaaDoorB
