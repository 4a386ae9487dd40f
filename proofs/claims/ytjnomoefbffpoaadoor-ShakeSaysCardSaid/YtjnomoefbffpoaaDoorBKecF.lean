/- The permutation, in the document's words. -/
import Derived.Test.YtjnomoefbffpoaaDoorZabY
import Derived.Test.YtjnomoefbffpoaaDoorBKecR
namespace Zab.YtjnomoefbffpoaaDoorB
open Go
open Go.IntWalk (i64_in)
set_option maxRecDepth 100000
set_option linter.unusedSimpArgs false
set_option linter.unusedVariables false
attribute [-simp] getElem?_pos

theorem fTurned (x : Ln) {n : Nat} (h : n < 64) : FF tab 85 [.i .u64 (iv x), .i .i64 (n : Int)] = some ⟨.i .u64 (iv (rot x n)), []⟩ := by
  refine call_by (A := A85) rfl rfl ?_
  have e1 : IntKind.u64.wrap (n : Int) = (n : Int) := by
    unfold IntKind.wrap
    simp only [IntKind.signed, IntKind.bits]
    simp
    omega
  have e2 : IntKind.i64.wrap (64 - (n : Int)) = ((64 - n : Nat) : Int) := by rw [i64_in _ (by omega)]; omega
  have e3 : IntKind.u64.wrap ((64 - n : Nat) : Int) = ((64 - n : Nat) : Int) := by
    unfold IntKind.wrap
    simp only [IntKind.signed, IntKind.bits]
    simp
    omega
  have s1 := shl_u64 x (show n ≤ 64 by omega)
  have s2 := shr_u64 x (show 64 - n ≤ 64 by omega)
  generalize ((64 - n : Nat) : Int) = M at *
  generalize (n : Int) = N at *
  simp [A85, e1, e2, e3, s1, s2, bitV_or]
  rfl

theorem fTurn (x y : Int) : FF tab 86 [.i .i64 x, .i .i64 y] = some ⟨.i .i64 (turn x y), []⟩ := by
  refine call_by (A := A86) rfl rfl ?_
  simp [A86]
  refine w_headsP 24 (fun i => ⟨[(7, .i .i64 i), (6, .i .i64 (ab i).2), (5, .i .i64 (ab i).1), (1, .i .i64 y), (0, .i .i64 x)], []⟩) (fun i => turn x y = turnF x y i (24 - i)) (by simp [ab]) rfl ?_ ?_
  · intro i hi hp
    obtain ⟨h1, h2, h3, h4⟩ := ab_bound i
    have e : 24 - i = (24 - (i + 1)) + 1 := by omega
    rw [e, turnF] at hp
    have hlt : (i : Int) < 24 := by omega
    have w1 : IntKind.i64.wrap ((i : Int) + 1) = (i : Int) + 1 := i64_in _ (by omega)
    have w2 : IntKind.i64.wrap ((i : Int) + 2) = (i : Int) + 2 := i64_in _ (by omega)
    have w3 : IntKind.i64.wrap (2 * (ab i).1) = 2 * (ab i).1 := i64_in _ (by omega)
    have w4 : IntKind.i64.wrap (3 * (ab i).2) = 3 * (ab i).2 := i64_in _ (by omega)
    have w5 : IntKind.i64.wrap (2 * (ab i).1 + 3 * (ab i).2) = 2 * (ab i).1 + 3 * (ab i).2 := i64_in _ (by omega)
    have w6 : (2 * (ab i).1 + 3 * (ab i).2).tmod 5 = (2 * (ab i).1 + 3 * (ab i).2) % 5 := Int.tmod_eq_emod_of_nonneg (by omega)
    by_cases ha : (ab i).1 = x
    · by_cases hb : (ab i).2 = y
      · rw [if_pos ⟨ha, hb⟩] at hp
        have k1 : ((i : Int) + 1) * ((i : Int) + 2) ≤ 24 * 25 := Int.mul_le_mul (by omega) (by omega) (by omega) (by omega)
        have k0 : 0 ≤ ((i : Int) + 1) * ((i : Int) + 2) := Int.mul_nonneg (by omega) (by omega)
        have w7 : IntKind.i64.wrap (((i : Int) + 1) * ((i : Int) + 2)) = ((i : Int) + 1) * ((i : Int) + 2) := i64_in _ (by omega)
        have w8 : (((i : Int) + 1) * ((i : Int) + 2)).tdiv 2 = ((i : Int) + 1) * ((i : Int) + 2) / 2 := Int.tdiv_eq_ediv_of_nonneg k0
        have w9 : IntKind.i64.wrap (((i : Int) + 1) * ((i : Int) + 2) / 2) = ((i : Int) + 1) * ((i : Int) + 2) / 2 := i64_in _ (by omega)
        have w10 : (((i : Int) + 1) * ((i : Int) + 2) / 2).tmod 64 = ((i : Int) + 1) * ((i : Int) + 2) / 2 % 64 := Int.tmod_eq_emod_of_nonneg (by omega)
        simp [hlt, ha, hb, w1, w2, w7, w8, w9, w10]
        rw [hp]; rfl
      · rw [if_neg (fun h => hb h.2)] at hp
        simp [hlt, ha, hb]
        rw [ha] at w3 w5 w6
        simp [w1, w3, w4, w5, w6]
        exact ⟨by simp [ab, ha], by rw [hp]; congr 1; omega⟩
    · rw [if_neg (fun h => ha h.1)] at hp
      simp [hlt, ha, w1, w3, w4, w5, w6]
      exact ⟨⟨rfl, rfl⟩, by rw [hp]; congr 1; omega⟩
  · intro hp
    simp []
    rw [hp]; rfl

set_option maxHeartbeats 4000000 in
theorem fConstant (i : Int) : FF tab 87 [.i .i64 i] = some ⟨.i .u64 (iv (con i)), []⟩ := by
  refine call_by (A := A87) rfl rfl ?_
  by_cases h : i < 0 ∨ 24 ≤ i
  · rw [show con i = 0 from if_pos h]
    by_cases h1 : i < 0
    · simp (disch := omega) [A87, h1]; rfl
    · have h2 : 24 ≤ i := by omega
      simp (disch := omega) [A87]; rfl
  · obtain ⟨n, rfl⟩ : ∃ n : Nat, i = n := ⟨i.toNat, by omega⟩
    have hn : n < 24 := by omega
    have w1 : IntKind.i64.wrap ((n : Int) + 1) = (n : Int) + 1 := i64_in _ (by omega)
    have w2 : IntKind.i64.wrap (7 * ((n : Int) + 1)) = 7 * ((n : Int) + 1) := i64_in _ (by omega)
    have w3 : IntKind.i64.wrap (7 * (n : Int)) = 7 * (n : Int) := i64_in _ (by omega)
    have hc : con (n : Int) = outC n (7 * (n + 1)) := by unfold con; rw [if_neg h, Int.toNat_natCast]
    rw [hc]
    have hN : 0 ≤ (n : Int) ∧ (n : Int) < 24 := by omega
    generalize hT0 : (n : Int) = N at *
    simp (disch := omega) [A87, w1, w2]
    refine w_heads (7 * (n + 1)) (fun t => ⟨[(5, .i .i64 t), (4, .i .i64 (ib (row t))), (3, .i .u64 (iv (outC n t))), (0, .i .i64 N)], []⟩) (by simp [row, outC, iv, ib]) ?_ ?_
    · intro t ht
      have er : row (t + 1) = nextB (row t) := rfl
      have e1 := by_low (row t)
      have e1' : (ib (row t)).tmod 2 = ib (row t) % 2 := Int.tmod_eq_emod_of_nonneg (ib_ok _).1
      rw [e1] at e1'
      have e2 := i64_and (row t)
      have e3 := i64_xor (row t <<< 1)
      have e4 := u8_top (row t)
      have e5 := by_shl (row t)
      have hrr := ib_ok (row t)
      have w6 : IntKind.i64.wrap (2 * ib (row t)) = 2 * ib (row t) := i64_in _ (by omega)
      have w7 : IntKind.i64.wrap (ib (row t <<< 1)) = ib (row t <<< 1) := i64_in _ (by have := ib_ok (row t <<< 1); omega)
      by_cases ha : 7 * n ≤ t
      · have hj : t - 7 * n ≤ 6 := by omega
        have hJ : (t : Int) - 7 * N = ((t - 7 * n : Nat) : Int) := by omega
        have eo : outC n (t + 1) = if low (row t) = true then outC n t ||| ((1#64) <<< (2 ^ (t - 7 * n) - 1)) else outC n t := by
          simp only [outC, ha, true_and]
        obtain ⟨s1, s2, s3⟩ := shl1 hj
        have s4 := shl1' s3
        have wj : IntKind.u64.wrap ((t - 7 * n : Nat) : Int) = ((t - 7 * n : Nat) : Int) := by
          unfold IntKind.wrap
          simp only [IntKind.signed, IntKind.bits]
          simp
          omega
        rw [← hJ] at s1 wj
        generalize ((2 ^ (t - 7 * n) : Nat) : Int) = P at *
        generalize ((2 ^ (t - 7 * n) - 1 : Nat) : Int) = P' at *
        generalize hT : (t : Int) = T at *
        have a1 : T < 7 * (N + 1) ∧ 7 * N ≤ T := by omega
        have w4 : IntKind.i64.wrap (T + 1) = T + 1 := i64_in _ (by omega)
        have w5 : IntKind.i64.wrap (T - 7 * N) = T - 7 * N := i64_in _ (by omega)
        generalize row t = r at *
        generalize outC n t = o at *
        clear h hc s3 hj hJ ha ht e1
        cases hb : low r <;> cases hh : top r <;> simp [hb, hh, bI, nextB] at e1' e4 e5 eo er <;>
          simp (disch := omega) [w1, w2, w3, w4, w5, w6, w7, wj, e1', e2, e3, e5, s1, s2, s4, bitV_or, eo, er, hT]
      · have eo : outC n (t + 1) = outC n t := by simp only [outC]; rw [if_neg (fun h => ha h.1)]
        generalize hT : (t : Int) = T at *
        have a1 : T < 7 * (N + 1) ∧ T < 7 * N := by omega
        have w4 : IntKind.i64.wrap (T + 1) = T + 1 := i64_in _ (by omega)
        generalize row t = r at *
        clear h hc ha ht e1
        cases hh : top r <;> simp [hh, nextB] at e4 e5 er <;>
          simp (disch := omega) [w1, w2, w3, w4, w6, w7, e2, e3, e5, eo, er, hT]
    · have e : ((7 * (n + 1) : Nat) : Int) = 7 * (N + 1) := by omega
      simp only [e]
      simp [w1, w2]

set_option maxHeartbeats 16000000 in
theorem fRound (L : List Ln) (hL : L.length = 25) (i : Int) : FF tab 62 [.ag (lanes L), .i .i64 i] = some ⟨.ag (lanes (rnd L (con i))), []⟩ := by
  refine call_by (A := A62) rfl rfl ?_
  have hLL : (lanes L).length = 25 := by rw [lanes_length, hL]
  have hZ : (lanes (zL 25)).length = 25 := by rw [lanes_length, zL_len]
  simp (disch := omega) [A62, ↓z25, ↓z5]
  refine w_heads 5 (fun x => ⟨[(6, .i .i64 x), (5, .rf 5 0), (4, .rf 4 0), (2, .rf 2 0), (1, .i .i64 i)], [(5, lanes (refC L (5 * x))), (4, lanes (zL 25)), (2, lanes L)]⟩) (by simp [refC]) ?_ ?_
  · intro x hx
    have w1 : IntKind.i64.wrap ((x : Int) + 1) = (x : Int) + 1 := i64_in _ (by omega)
    have hXn : (x : Int).toNat = x := Int.toNat_natCast _
    generalize hX : (x : Int) = X at *
    simp (disch := omega) []
    refine w_heads 5 (fun y => ⟨[(7, .i .i64 y), (6, .i .i64 X), (5, .rf 5 0), (4, .rf 4 0), (2, .rf 2 0), (1, .i .i64 i)], [(5, lanes (refC L (5 * x + y))), (4, lanes (zL 25)), (2, lanes L)]⟩) (by simp []) ?_ ?_
    · intro y hy
      have hl := refC_len L (5 * x + y)
      have hl2 : (lanes (refC L (5 * x + y))).length = 5 := by rw [lanes_length, hl]
      have er : refC L (5 * x + (y + 1)) = (refC L (5 * x + y)).set x (nl (refC L (5 * x + y)) x ^^^ nl L (x + 5 * y)) := by
        have e0 : ∀ m, refC L (m + 1) = (refC L m).set (m / 5) (nl (refC L m) (m / 5) ^^^ nl L (m / 5 + 5 * (m % 5))) := fun _ => rfl
        rw [show 5 * x + (y + 1) = (5 * x + y) + 1 by omega, e0, show (5 * x + y) / 5 = x by omega, show (5 * x + y) % 5 = y by omega]
      have w2 : IntKind.i64.wrap ((y : Int) + 1) = (y : Int) + 1 := i64_in _ (by omega)
      have w3 : IntKind.i64.wrap (5 * (y : Int)) = 5 * (y : Int) := i64_in _ (by omega)
      have w4 : IntKind.i64.wrap (X + 5 * (y : Int)) = ((x + 5 * y : Nat) : Int) := by rw [i64_in _ (by omega)]; omega
      have hpn : ((x + 5 * y : Nat) : Int).toNat = x + 5 * y := Int.toNat_natCast _
      have hp : ((x + 5 * y : Nat) : Int) < 25 ∧ 0 ≤ ((x + 5 * y : Nat) : Int) := by omega
      have hp2 : x + 5 * y < 25 := by omega
      generalize ((x + 5 * y : Nat) : Int) = P at *
      generalize hY : (y : Int) = Y at *
      generalize refC L (5 * x + y) = C at *
      simp (disch := omega) [hXn, hpn, hY, w2, w3, w4, lanes_get, lanes_set, bitV_xor, er]
    · simp (disch := omega) [w1, hX]
      rfl
  · simp (disch := omega) [↓z25, refC_eq]
    have hC5 := theC_len L 25
    unfold rnd base
    generalize theC L 25 = C at *
    have hC5' : (lanes C).length = 5 := by rw [lanes_length, hC5]
    refine w_heads 5 (fun x => ⟨[(9, .i .i64 x), (8, .rf 8 0), (5, .rf 5 0), (4, .rf 4 0), (2, .rf 2 0), (1, .i .i64 i)], [(8, lanes (refB L C (5 * x))), (5, lanes C), (4, lanes (zL 25)), (2, lanes L)]⟩) (by simp [refB]) ?_ ?_
    · intro x hx
      have hx5 : x < 5 := hx
      have w1 : IntKind.i64.wrap ((x : Int) + 1) = (x : Int) + 1 := i64_in _ (by omega)
      have hXn : (x : Int).toNat = x := Int.toNat_natCast _
      have m1 : ((x : Int) + 4).tmod 5 = (((x + 4) % 5 : Nat) : Int) := rfl
      have m2 : ((x : Int) + 1).tmod 5 = (((x + 1) % 5 : Nat) : Int) := rfl
      have w2 : IntKind.i64.wrap ((x : Int) + 4) = (x : Int) + 4 := i64_in _ (by omega)
      have i1 : ((((x + 4) % 5 : Nat) : Int)).toNat = (x + 4) % 5 := Int.toNat_natCast _
      have i2 : ((((x + 1) % 5 : Nat) : Int)).toNat = (x + 1) % 5 := Int.toNat_natCast _
      have h4 : (x + 4) % 5 < 5 := by omega
      have h1 : (x + 1) % 5 < 5 := by omega
      have q1 : (((x + 4) % 5 : Nat) : Int) < 5 ∧ (0 : Int) ≤ (((x + 4) % 5 : Nat) : Int) := by omega
      have q2 : (((x + 1) % 5 : Nat) : Int) < 5 ∧ (0 : Int) ≤ (((x + 1) % 5 : Nat) : Int) := by omega
      have r2 : FF tab 85 [.i .u64 (iv (nl C ((x + 1) % 5))), .i .i64 1] = some ⟨.i .u64 (iv (rot (nl C ((x + 1) % 5)) 1)), []⟩ := fTurned _ (n := 1) (by omega)
      have d0 : nl C ((x + 4) % 5) ^^^ rot (nl C ((x + 1) % 5)) 1 = theD C x := rfl
      have dd : ∃ d, theD C x = d := ⟨_, rfl⟩
      have turnX : ∀ y : Nat, y < 5 → turn (x : Int) (y : Int) = (tn x y : Int) ∧ tn x y < 64 := fun y hy => turn_ok x y hx hy
      have w4 : IntKind.i64.wrap (2 * (x : Int)) = 2 * (x : Int) := i64_in _ (by omega)
      have hm3 : ∀ y : Nat, (2 * (x : Int) + 3 * (y : Int)).tmod 5 = (((2 * x + 3 * y) % 5 : Nat) : Int) := fun _ => rfl
      generalize (((x + 4) % 5 : Nat) : Int) = X4 at *
      generalize (((x + 1) % 5 : Nat) : Int) = X1 at *
      generalize hX : (x : Int) = X at *
      simp (disch := omega) [w1, w2, m1, m2, i1, i2, r2, d0, lanes_get, bitV_xor]
      refine w_heads 5 (fun y => ⟨[(11, .i .i64 y), (10, .i .u64 (iv (theD C x))), (9, .i .i64 X), (8, .rf 8 0), (5, .rf 5 0), (4, .rf 4 0), (2, .rf 2 0), (1, .i .i64 i)], [(8, lanes (refB L C (5 * x + y))), (5, lanes C), (4, lanes (zL 25)), (2, lanes L)]⟩) (by simp []) ?_ ?_
      · intro y hy
        have hl := refB_len L C (5 * x + y)
        have hl2 : (lanes (refB L C (5 * x + y))).length = 25 := by rw [lanes_length, hl]
        have er : refB L C (5 * x + (y + 1)) = (refB L C (5 * x + y)).set (place x y) (rot (nl L (x + 5 * y) ^^^ theD C x) (tn x y)) := by
          have e0 : ∀ m, refB L C (m + 1) = (refB L C m).set (place (m / 5) (m % 5)) (rot (nl L (m / 5 + 5 * (m % 5)) ^^^ theD C (m / 5)) (tn (m / 5) (m % 5))) := fun _ => rfl
          rw [show 5 * x + (y + 1) = (5 * x + y) + 1 by omega, e0, show (5 * x + y) / 5 = x by omega, show (5 * x + y) % 5 = y by omega]
        obtain ⟨t1, t2⟩ := turnX y hy
        have t3 := fTurn X (y : Int)
        rw [t1] at t3
        have r1 := fTurned (nl L (x + 5 * y) ^^^ theD C x) t2
        have hp := place_lt x y hx hy
        have pl : place x y = y + 5 * ((2 * x + 3 * y) % 5) := rfl
        have m3 := hm3 y
        have w3 : IntKind.i64.wrap ((y : Int) + 1) = (y : Int) + 1 := i64_in _ (by omega)
        have w5 : IntKind.i64.wrap (3 * (y : Int)) = 3 * (y : Int) := i64_in _ (by omega)
        have w6 : IntKind.i64.wrap (2 * X + 3 * (y : Int)) = 2 * X + 3 * (y : Int) := i64_in _ (by omega)
        have w7 : IntKind.i64.wrap (5 * (((2 * x + 3 * y) % 5 : Nat) : Int)) = 5 * (((2 * x + 3 * y) % 5 : Nat) : Int) := i64_in _ (by omega)
        have w8 : IntKind.i64.wrap ((y : Int) + 5 * (((2 * x + 3 * y) % 5 : Nat) : Int)) = (place x y : Int) := by rw [i64_in _ (by omega)]; omega
        have i3 : ((place x y : Nat) : Int).toNat = place x y := Int.toNat_natCast _
        have q3 : ((place x y : Nat) : Int) < 25 ∧ (0 : Int) ≤ ((place x y : Nat) : Int) := by omega
        have w9 : IntKind.i64.wrap (5 * (y : Int)) = 5 * (y : Int) := i64_in _ (by omega)
        have w10 : IntKind.i64.wrap (X + 5 * (y : Int)) = ((x + 5 * y : Nat) : Int) := by rw [i64_in _ (by omega)]; omega
        have i4 : ((x + 5 * y : Nat) : Int).toNat = x + 5 * y := Int.toNat_natCast _
        have q4 : ((x + 5 * y : Nat) : Int) < 25 ∧ 0 ≤ ((x + 5 * y : Nat) : Int) := by omega
        have hp2 : x + 5 * y < 25 := by omega
        generalize rot (nl L (x + 5 * y) ^^^ theD C x) (tn x y) = V at *
        generalize ((tn x y : Nat) : Int) = TN at *
        generalize (((2 * x + 3 * y) % 5 : Nat) : Int) = P5 at *
        generalize ((place x y : Nat) : Int) = PL at *
        generalize ((x + 5 * y : Nat) : Int) = P at *
        generalize hY : (y : Int) = Y at *
        generalize refB L C (5 * x + y) = B at *
        clear turnX hm3 t1 t2 pl
        simp (disch := omega) [hY, w3, w4, w5, w6, w7, w8, w9, w10, m3, i3, i4, r1, t3, lanes_get, lanes_set, bitV_xor, er]
      · simp (disch := omega) [w1, hX]
        rfl
    · simp (disch := omega) [↓z25, refB_eq]
      have hB := theB_len L C 25
      generalize theB L C 25 = B at *
      have hB' : (lanes B).length = 25 := by rw [lanes_length, hB]
      refine w_heads 5 (fun x => ⟨[(13, .i .i64 x), (12, .rf 12 0), (8, .rf 8 0), (4, .rf 4 0), (1, .i .i64 i)], [(12, lanes (refO B (5 * x))), (8, lanes B), (4, lanes (zL 25))]⟩) (by simp [refO]) ?_ ?_
      · intro x hx
        have w1 : IntKind.i64.wrap ((x : Int) + 1) = (x : Int) + 1 := i64_in _ (by omega)
        have w2 : IntKind.i64.wrap ((x : Int) + 2) = (x : Int) + 2 := i64_in _ (by omega)
        have m1 : ((x : Int) + 1).tmod 5 = (((x + 1) % 5 : Nat) : Int) := rfl
        have m2 : ((x : Int) + 2).tmod 5 = (((x + 2) % 5 : Nat) : Int) := rfl
        have hX1 : (((x + 1) % 5 : Nat) : Int) < 5 := by omega
        generalize hX : (x : Int) = X at *
        simp (disch := omega) []
        refine w_heads 5 (fun y => ⟨[(14, .i .i64 y), (13, .i .i64 X), (12, .rf 12 0), (8, .rf 8 0), (4, .rf 4 0), (1, .i .i64 i)], [(12, lanes (refO B (5 * x + y))), (8, lanes B), (4, lanes (zL 25))]⟩) (by simp []) ?_ ?_
        · intro y hy
          have hl := refO_len B (5 * x + y)
          have hl2 : (lanes (refO B (5 * x + y))).length = 25 := by rw [lanes_length, hl]
          have er : refO B (5 * x + (y + 1)) = (refO B (5 * x + y)).set (x + 5 * y) (nl B (x + 5 * y) ^^^ (~~~ nl B ((x + 1) % 5 + 5 * y) &&& nl B ((x + 2) % 5 + 5 * y))) := by
            have e0 : ∀ m, refO B (m + 1) = (refO B m).set (m / 5 + 5 * (m % 5)) (chi B (m / 5) (m % 5)) := fun _ => rfl
            rw [show 5 * x + (y + 1) = (5 * x + y) + 1 by omega, e0, show (5 * x + y) / 5 = x by omega, show (5 * x + y) % 5 = y by omega]
            rfl
          have w3 : IntKind.i64.wrap ((y : Int) + 1) = (y : Int) + 1 := i64_in _ (by omega)
          have w4 : IntKind.i64.wrap (5 * (y : Int)) = 5 * (y : Int) := i64_in _ (by omega)
          have w5 : IntKind.i64.wrap (X + 5 * (y : Int)) = ((x + 5 * y : Nat) : Int) := by rw [i64_in _ (by omega)]; omega
          have w6 : IntKind.i64.wrap ((((x + 1) % 5 : Nat) : Int) + 5 * (y : Int)) = (((x + 1) % 5 + 5 * y : Nat) : Int) := by rw [i64_in _ (by omega)]; omega
          have w7 : IntKind.i64.wrap ((((x + 2) % 5 : Nat) : Int) + 5 * (y : Int)) = (((x + 2) % 5 + 5 * y : Nat) : Int) := by rw [i64_in _ (by omega)]; omega
          have p0 : x + 5 * y < 25 := by omega
          have p1 : (x + 1) % 5 + 5 * y < 25 := by omega
          have p2 : (x + 2) % 5 + 5 * y < 25 := by omega
          generalize hp0 : x + 5 * y = P0 at *
          generalize hp1 : (x + 1) % 5 + 5 * y = P1 at *
          generalize hp2 : (x + 2) % 5 + 5 * y = P2 at *
          have i0 : ((P0 : Nat) : Int).toNat = P0 := Int.toNat_natCast _
          have i1 : ((P1 : Nat) : Int).toNat = P1 := Int.toNat_natCast _
          have i2 : ((P2 : Nat) : Int).toNat = P2 := Int.toNat_natCast _
          have q0 : (P0 : Int) < 25 ∧ (0 : Int) ≤ (P0 : Int) := by omega
          have q1 : (P1 : Int) < 25 ∧ (0 : Int) ≤ (P1 : Int) := by omega
          have q2 : (P2 : Int) < 25 ∧ (0 : Int) ≤ (P2 : Int) := by omega
          generalize (((x + 1) % 5 : Nat) : Int) = X1 at *
          generalize (((x + 2) % 5 : Nat) : Int) = X2 at *
          generalize (P0 : Int) = Q0 at *
          generalize (P1 : Int) = Q1 at *
          generalize (P2 : Int) = Q2 at *
          generalize hY : (y : Int) = Y at *
          generalize refO B (5 * x + y) = O at *
          clear hp0 hp1 hp2
          simp (disch := omega) [hY, m1, m2, w1, w2, w3, w4, w5, w6, w7, i0, i1, i2, lanes_get, lanes_set, bitV_xor, bitV_and, bitV_not, er]
        · simp (disch := omega) [w1, hX]
          rfl
      · simp (disch := omega) [refO_eq]
        have hO := theO_len B 25
        generalize theO B 25 = O at *
        have hO' : (lanes O).length = 25 := by rw [lanes_length, hO]
        have hO2 : (lanes (O.set 0 (nl O 0 ^^^ con i))).length = 25 := by simp [lanes_length, hO]
        have hk := fConstant i
        simp (disch := omega) [hk, lanes_get, lanes_set, bitV_xor, hO', hO2]

set_option maxHeartbeats 8000000 in
theorem fPermute (L : List Ln) (hL : L.length = 25) : FF tab 32 [.ag (lanes L)] = some ⟨.ag (lanes (rnds L 24)), []⟩ := by
  refine call_by (A := A32) rfl rfl ?_
  have hLL : (lanes L).length = 25 := by rw [lanes_length, hL]
  have hZ : (lanes (zL 25)).length = 25 := by rw [lanes_length, zL_len]
  simp (disch := omega) [A32, ↓z25]
  refine w_heads 24 (fun k => ⟨[(3, .i .i64 k), (2, .rf 2 0), (1, .rf 1 0)], [(2, lanes (zL 25)), (1, lanes (rnds L k))]⟩) (by simp [rnds]) ?_ ?_
  · intro k hk
    have hr := fRound (rnds L k) (rnds_len hL k) k
    have hl : (lanes (rnds L k)).length = 25 := by rw [lanes_length, rnds_len hL]
    have hl' : (lanes (rnd (rnds L k) (con k))).length = 25 := by rw [lanes_length, rnd_len]
    have er : rnds L (k + 1) = rnd (rnds L k) (con k) := rfl
    have w1 : IntKind.i64.wrap ((k : Int) + 1) = (k : Int) + 1 := i64_in _ (by omega)
    generalize hT : (k : Int) = T at *
    generalize rnds L k = M at *
    simp (disch := omega) [hr, hT, w1, er, hl, hl']
  · have hl : (lanes (rnds L 24)).length = 25 := by rw [lanes_length, rnds_len hL]
    generalize rnds L 24 = M at *
    simp (disch := omega) [hl]
end Zab.YtjnomoefbffpoaaDoorB
