/- A round, the permutation. -/
import Derived.Test.YtjnomoefbffpoaaDoorZabY
import Derived.Test.YtjnomoefbffpoaaDoorBKec
namespace Zab.YtjnomoefbffpoaaDoorB
open Go
open Go.IntWalk (i64_in)
set_option maxRecDepth 100000
set_option linter.unusedSimpArgs false
set_option linter.unusedVariables false
attribute [-simp] getElem?_pos

theorem place_lt (x y : Nat) (hx : x < 5) (hy : y < 5) : place x y < 25 := by unfold place; omega

set_option maxHeartbeats 8000000 in
theorem Round (L : List Ln) (hL : L.length = 25) (i : Int) : FF tab 63 [.ag (lanes L), .i .i64 i] = some ⟨.ag (lanes (rnd L (con i))), []⟩ := by
  refine call_by (A := A63) rfl rfl ?_
  have hLL : (lanes L).length = 25 := by rw [lanes_length, hL]
  have hZ : (lanes (zL 25)).length = 25 := by rw [lanes_length, zL_len]
  simp (disch := omega) [A63, ↓z25, ↓z5]
  refine w_heads 25 (fun k => ⟨[(18, .i .i64 k), (17, .ag (lanes L)), (5, .rf 5 0), (4, .rf 4 0), (2, .rf 2 0), (1, .i .i64 i)], [(5, lanes (theC L k)), (4, lanes (zL 25)), (2, lanes L)]⟩) (by simp [theC]) ?_ ?_
  · intro k hk
    have hl := theC_len L k
    have hl2 : (lanes (theC L k)).length = 5 := by rw [lanes_length, hl]
    have er : theC L (k + 1) = (theC L k).set (k % 5) (nl (theC L k) (k % 5) ^^^ nl L k) := rfl
    have hX : (k : Int).tmod 5 = ((k % 5 : Nat) : Int) := rfl
    have hX2 : ((k % 5 : Nat) : Int).toNat = k % 5 := Int.toNat_natCast _
    have hT2 : (k : Int).toNat = k := Int.toNat_natCast _
    have h5 : k % 5 < 5 := by omega
    generalize hXX : ((k % 5 : Nat) : Int) = X at *
    generalize hT : (k : Int) = T at *
    have w1 : IntKind.i64.wrap (T + 1) = T + 1 := i64_in _ (by omega)
    generalize theC L k = C at *
    simp (disch := omega) [hX, hX2, hT, hT2, w1, lanes_get, lanes_set, bitV_xor, er]
  · simp (disch := omega) [↓z25]
    have hC5 := theC_len L 25
    unfold rnd base
    generalize theC L 25 = C at *
    have hC5' : (lanes C).length = 5 := by rw [lanes_length, hC5]
    refine w_heads 25 (fun k => ⟨[(31, .i .i64 k), (30, .ag (lanes L)), (8, .rf 8 0), (5, .rf 5 0), (4, .rf 4 0), (1, .i .i64 i)], [(8, lanes (theB L C k)), (5, lanes C), (4, lanes (zL 25))]⟩) (by simp [theB]) ?_ ?_
    · intro k hk
      have hl := theB_len L C k
      have hl2 : (lanes (theB L C k)).length = 25 := by rw [lanes_length, hl]
      have er : theB L C (k + 1) = (theB L C k).set (place (k % 5) (k / 5)) (rot (nl L k ^^^ theD C (k % 5)) (tn (k % 5) (k / 5))) := rfl
      have hx5 : k % 5 < 5 := by omega
      have hy5 : k / 5 < 5 := by omega
      have hX : (k : Int).tmod 5 = ((k % 5 : Nat) : Int) := rfl
      have hY : (k : Int).tdiv 5 = ((k / 5 : Nat) : Int) := rfl
      have hX2 : ((k % 5 : Nat) : Int).toNat = k % 5 := Int.toNat_natCast _
      have hT2 : (k : Int).toNat = k := Int.toNat_natCast _
      obtain ⟨t1, t2⟩ := turn_ok (k % 5) (k / 5) hx5 hy5
      have t3 := Turn ((k % 5 : Nat) : Int) ((k / 5 : Nat) : Int)
      rw [t1] at t3
      have r1 := RotL (nl L k ^^^ theD C (k % 5)) t2
      have r2 := RotL (nl C ((k % 5 + 1) % 5)) (n := 1) (by omega)
      have r2' : FF tab 88 [.i .u64 (iv (nl C ((k % 5 + 1) % 5))), .i .i64 1] = some ⟨.i .u64 (iv (rot (nl C ((k % 5 + 1) % 5)) 1)), []⟩ := r2
      have hp := place_lt (k % 5) (k / 5) hx5 hy5
      have hT1 : (k : Int) < 25 := by omega
      have d0 : theD C (k % 5) = nl C ((k % 5 + 4) % 5) ^^^ rot (nl C ((k % 5 + 1) % 5)) 1 := rfl
      have pl : place (k % 5) (k / 5) = k / 5 + 5 * ((2 * (k % 5) + 3 * (k / 5)) % 5) := rfl
      generalize rot (nl L k ^^^ theD C (k % 5)) (tn (k % 5) (k / 5)) = V at *
      generalize ((tn (k % 5) (k / 5) : Nat) : Int) = TN at *
      generalize k % 5 = x at *
      generalize k / 5 = y at *
      have m1 : ((x : Int) + 4).tmod 5 = (((x + 4) % 5 : Nat) : Int) := rfl
      have m2 : ((x : Int) + 1).tmod 5 = (((x + 1) % 5 : Nat) : Int) := rfl
      have m3 : (2 * (x : Int) + 3 * (y : Int)).tmod 5 = (((2 * x + 3 * y) % 5 : Nat) : Int) := rfl
      have w1 : IntKind.i64.wrap ((k : Int) + 1) = (k : Int) + 1 := i64_in _ (by omega)
      have wY : IntKind.i64.wrap (y : Int) = (y : Int) := i64_in _ (by omega)
      have w2 : IntKind.i64.wrap ((x : Int) + 4) = (x : Int) + 4 := i64_in _ (by omega)
      have w3 : IntKind.i64.wrap ((x : Int) + 1) = (x : Int) + 1 := i64_in _ (by omega)
      have w4 : IntKind.i64.wrap (2 * (x : Int)) = 2 * (x : Int) := i64_in _ (by omega)
      have w5 : IntKind.i64.wrap (3 * (y : Int)) = 3 * (y : Int) := i64_in _ (by omega)
      have w6 : IntKind.i64.wrap (2 * (x : Int) + 3 * (y : Int)) = 2 * (x : Int) + 3 * (y : Int) := i64_in _ (by omega)
      have i1 : ((((x + 4) % 5 : Nat) : Int)).toNat = (x + 4) % 5 := Int.toNat_natCast _
      have i2 : ((((x + 1) % 5 : Nat) : Int)).toNat = (x + 1) % 5 := Int.toNat_natCast _
      have w7 : IntKind.i64.wrap (5 * (((2 * x + 3 * y) % 5 : Nat) : Int)) = 5 * (((2 * x + 3 * y) % 5 : Nat) : Int) := i64_in _ (by omega)
      have w8 : IntKind.i64.wrap ((y : Int) + 5 * (((2 * x + 3 * y) % 5 : Nat) : Int)) = (place x y : Int) := by rw [i64_in _ (by omega)]; omega
      have i3 : ((place x y : Nat) : Int).toNat = place x y := Int.toNat_natCast _
      have h4 : (x + 4) % 5 < 5 := by omega
      have h1 : (x + 1) % 5 < 5 := by omega
      have q1 : (((x + 4) % 5 : Nat) : Int) < 5 ∧ (0 : Int) ≤ (((x + 4) % 5 : Nat) : Int) := by omega
      have q2 : (((x + 1) % 5 : Nat) : Int) < 5 ∧ (0 : Int) ≤ (((x + 1) % 5 : Nat) : Int) := by omega
      have q3 : ((place x y : Nat) : Int) < 25 ∧ (0 : Int) ≤ ((place x y : Nat) : Int) := by omega
      have e0 : (0 : Int) ≤ (k : Int) := by omega
      generalize (((x + 4) % 5 : Nat) : Int) = X4 at *
      generalize (((x + 1) % 5 : Nat) : Int) = X1 at *
      generalize (((2 * x + 3 * y) % 5 : Nat) : Int) = P5 at *
      generalize ((place x y : Nat) : Int) = PL at *
      generalize (x : Int) = X at *
      generalize (y : Int) = Y at *
      generalize hT : (k : Int) = T at *
      generalize theB L C k = B at *
      rw [d0] at r1
      clear t1 t2 r2 d0 pl hx5 hy5
      simp (disch := omega) [hX, hY, hX2, hT, hT2, m1, m2, m3, wY, w1, w2, w3, w4, w5, w6, w7, w8, i1, i2, i3, r1, r2', t3, lanes_get, lanes_set, bitV_xor, er]
    · have hB := theB_len L C 25
      generalize theB L C 25 = B at *
      have hB' : (lanes B).length = 25 := by rw [lanes_length, hB]
      simp (disch := omega) [↓z25]
      refine w_heads 25 (fun k => ⟨[(69, .i .i64 k), (13, .rf 13 0), (8, .rf 8 0), (4, .rf 4 0), (1, .i .i64 i)], [(13, lanes (theO B k)), (8, lanes B), (4, lanes (zL 25))]⟩) (by simp [theO]) ?_ ?_
      · intro k hk
        have hl := theO_len B k
        have hl2 : (lanes (theO B k)).length = 25 := by rw [lanes_length, hl]
        have er : theO B (k + 1) = (theO B k).set k (chi B (k % 5) (k / 5)) := rfl
        have ec : chi B (k % 5) (k / 5) = nl B k ^^^ (~~~ nl B ((k % 5 + 1) % 5 + 5 * (k / 5)) &&& nl B ((k % 5 + 2) % 5 + 5 * (k / 5))) := by
          unfold chi
          rw [show k % 5 + 5 * (k / 5) = k by omega]
        have hX : (k : Int).tmod 5 = ((k % 5 : Nat) : Int) := rfl
        have hY : (k : Int).tdiv 5 = ((k / 5 : Nat) : Int) := rfl
        have hT2 : (k : Int).toNat = k := Int.toNat_natCast _
        have hx5 : k % 5 < 5 := by omega
        have hy5 : k / 5 < 5 := by omega
        generalize chi B (k % 5) (k / 5) = V at *
        generalize k % 5 = x at *
        generalize k / 5 = y at *
        have m1 : ((x : Int) + 1).tmod 5 = (((x + 1) % 5 : Nat) : Int) := rfl
        have m2 : ((x : Int) + 2).tmod 5 = (((x + 2) % 5 : Nat) : Int) := rfl
        have w1 : IntKind.i64.wrap ((k : Int) + 1) = (k : Int) + 1 := i64_in _ (by omega)
        have wY : IntKind.i64.wrap (y : Int) = (y : Int) := i64_in _ (by omega)
        have w2 : IntKind.i64.wrap ((x : Int) + 1) = (x : Int) + 1 := i64_in _ (by omega)
        have w3 : IntKind.i64.wrap ((x : Int) + 2) = (x : Int) + 2 := i64_in _ (by omega)
        have w4 : IntKind.i64.wrap (5 * (y : Int)) = 5 * (y : Int) := i64_in _ (by omega)
        have p1 : (x + 1) % 5 + 5 * y < 25 := by omega
        have p2 : (x + 2) % 5 + 5 * y < 25 := by omega
        have w5 : IntKind.i64.wrap ((((x + 1) % 5 : Nat) : Int) + 5 * (y : Int)) = (((x + 1) % 5 + 5 * y : Nat) : Int) := by rw [i64_in _ (by omega)]; omega
        have w6 : IntKind.i64.wrap ((((x + 2) % 5 : Nat) : Int) + 5 * (y : Int)) = (((x + 2) % 5 + 5 * y : Nat) : Int) := by rw [i64_in _ (by omega)]; omega
        generalize hp1 : (x + 1) % 5 + 5 * y = P1 at *
        generalize hp2 : (x + 2) % 5 + 5 * y = P2 at *
        have i1 : ((P1 : Nat) : Int).toNat = P1 := Int.toNat_natCast _
        have i2 : ((P2 : Nat) : Int).toNat = P2 := Int.toNat_natCast _
        have q1 : (P1 : Int) < 25 ∧ (0 : Int) ≤ (P1 : Int) := by omega
        have q2 : (P2 : Int) < 25 ∧ (0 : Int) ≤ (P2 : Int) := by omega
        have q3 : (k : Int) < 25 ∧ (0 : Int) ≤ (k : Int) := by omega
        generalize (((x + 1) % 5 : Nat) : Int) = X1 at *
        generalize (((x + 2) % 5 : Nat) : Int) = X2 at *
        generalize (P1 : Int) = Q1 at *
        generalize (P2 : Int) = Q2 at *
        generalize (x : Int) = X at *
        generalize (y : Int) = Y at *
        generalize hT : (k : Int) = T at *
        generalize theO B k = O at *
        clear hp1 hp2 hx5 hy5
        simp (disch := omega) [hX, hY, hT, hT2, m1, m2, wY, w1, w2, w3, w4, w5, w6, i1, i2, lanes_get, lanes_set, bitV_xor, bitV_and, bitV_not, er, ec]
      · have hO := theO_len B 25
        generalize theO B 25 = O at *
        have hO' : (lanes O).length = 25 := by rw [lanes_length, hO]
        have hO2 : (lanes (O.set 0 (nl O 0 ^^^ con i))).length = 25 := by simp [lanes_length, hO]
        have hk := Constant i
        have e0 : (O.set 0 (nl O 0 ^^^ con i)).length = 25 := by simp [hO]
        simp (disch := omega) [hk, lanes_get, lanes_set, bitV_xor, hO', hO2]

set_option maxHeartbeats 8000000 in
theorem Permute (L : List Ln) (hL : L.length = 25) : FF tab 34 [.ag (lanes L)] = some ⟨.ag (lanes (rnds L 24)), []⟩ := by
  refine call_by (A := A34) rfl rfl ?_
  have hLL : (lanes L).length = 25 := by rw [lanes_length, hL]
  have hZ : (lanes (zL 25)).length = 25 := by rw [lanes_length, zL_len]
  simp (disch := omega) [A34, ↓z25]
  refine w_heads 24 (fun k => ⟨[(4, .i .i64 k), (2, .rf 2 0), (1, .rf 1 0)], [(2, lanes (zL 25)), (1, lanes (rnds L k))]⟩) (by simp [rnds]) ?_ ?_
  · intro k hk
    have hr := Round (rnds L k) (rnds_len hL k) k
    have hl : (lanes (rnds L k)).length = 25 := by rw [lanes_length, rnds_len hL]
    have hl' : (lanes (rnd (rnds L k) (con k))).length = 25 := by rw [lanes_length, rnd_len]
    have er : rnds L (k + 1) = rnd (rnds L k) (con k) := rfl
    have w1 : IntKind.i64.wrap ((k : Int) + 1) = (k : Int) + 1 := i64_in _ (by omega)
    generalize hT : (k : Int) = T at *
    generalize rnds L k = M at *
    simp (disch := omega) [hr, hT, w1, er, hl, hl']
  · have hl : (lanes (rnds L 24)).length = 25 := by rw [lanes_length, rnds_len hL]
    generalize rnds L 24 = M at *
    simp (disch := omega) [hl]

end Zab.YtjnomoefbffpoaaDoorB
