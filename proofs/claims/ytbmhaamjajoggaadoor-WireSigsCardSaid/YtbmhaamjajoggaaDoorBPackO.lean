/- Numbers out of bits of bytes: both functions. -/
import Derived.Test.YtbmhaamjajoggaaDoorZabY
import Derived.Test.YtbmhaamjajoggaaDoorZabG8
import Derived.Test.YtbmhaamjajoggaaDoorBZq
import Derived.Test.YtbmhaamjajoggaaDoorZabG7
namespace Zab.YtbmhaamjajoggaaDoorB
open Go
open Go.IntWalk (i64_in)
set_option maxRecDepth 100000
set_option linter.unusedSimpArgs false
set_option linter.unusedVariables false
attribute [-simp] getElem?_pos

theorem by8_in {L : List Int} (h : ∀ y ∈ L, inK .u8 y) : ∀ y ∈ L, 0 ≤ y ∧ y < 256 := by
  intro y hy
  obtain ⟨a, b⟩ := h y hy
  have a' : 0 ≤ y := a
  have b' : y ≤ 255 := b
  omega
theorem w64_nat {a : Nat} (h : a < 2 ^ 63) : IntKind.i64.wrap (a : Int) = a := wrap_nat h
set_option maxHeartbeats 8000000 in
theorem pOpenB {d n : Nat} (d1 : 1 ≤ d) (d24 : d ≤ 24) (n1 : 1 ≤ n) (n4 : n ≤ 4096) {x : AV} {L : List Int} (hx : IsL .u8 x L) (hI : ∀ y ∈ L, inK .u8 y) (hl : 8 * L.length = d * n) :
    FF tab 66 [.i .i64 d, .i .i64 n, x] = some ⟨.tp [.os (nums .i64 (opnL d (val L) n)) n 1, .nl], []⟩ := by
  refine call_by (A := A66) rfl rfl ?_
  have hB := by8_in hI
  have fx := hx.flat
  have lx := lenV_isL hx
  have hdn : d * n ≤ 24 * 4096 := Nat.mul_le_mul d24 n4
  have w1 : IntKind.i64.wrap ((d : Int) * n) = ((8 * L.length : Nat) : Int) := by
    rw [show ((d : Int) * n) = ((8 * L.length : Nat) : Int) by rw [hl]; simp]; exact i64_in _ (by omega)
  have r1 : ((8 * L.length : Nat) : Int).tmod 8 = 0 := by rw [Int.tmod_eq_emod_of_nonneg (by omega)]; omega
  have q1 : ((8 * L.length : Nat) : Int).tdiv 8 = L.length := by rw [Int.tdiv_eq_ediv_of_nonneg (by omega)]; omega
  have q2 : IntKind.i64.wrap (L.length : Int) = L.length := i64_in _ (by omega)
  have c1 : ¬ (d : Int) < 1 := by omega
  have c2 : ¬ (24 : Int) < d := by omega
  have c3 : ¬ (n : Int) < 0 := by omega
  have c4 : ¬ (4096 : Int) < n := by omega
  have tn : (n : Int).toNat = n := Int.toNat_natCast _
  have n8 : (n : Int) * 8 ≤ 140737488355328 := by omega
  have c0 : (0 : Int) ≤ n := by omega
  generalize hT : ((8 * L.length : Nat) : Int) = T8 at *
  clear hT
  simp (disch := first | assumption | omega | (simp only [lenS]; first | done | omega)) [A66, c0, c1, c2, c3, c4, lx, w1, r1, q1, q2, tn, n8]
  refine w_heads L.length (fun m => ⟨[(49, .i .i64 m), (48, .i .i64 L.length), (47, x), (10, .i .i64 ((8 * m - d * (8 * m / d) : Nat) : Int)), (9, .i .u64 ((rst d (val L) m (8 * m / d) : Nat) : Int)), (8, .rs 46 0 (opnL d (val L) (8 * m / d)).length 1), (0, .i .i64 d)], [(46, nums .i64 (opnL d (val L) (8 * m / d)))]⟩) (by simp (disch := first | assumption | omega | (simp only [lenS]; first | done | omega)) [opnL, rst, Nat.zero_div, Nat.mod_one, nums_nil]) ?_ ?_
  · intro m hm
    have hc := Nat.div_mul_le_self (8 * m) d
    rw [Nat.mul_comm] at hc
    have hmod : 8 * m - d * (8 * m / d) < d := by rw [← Nat.mod_eq_sub_mul_div]; exact Nat.mod_lt _ (by omega)
    have hcc : 8 * m / d ≤ 8 * (m + 1) / d := Nat.div_le_div_right (by omega)
    have e8 : ((8 * m - d * (8 * m / d) : Nat) : Int) + 8 = ((8 * (m + 1) - d * (8 * m / d) : Nat) : Int) := by omega
    have hr := rst_byte (d := d) (c := 8 * m / d) hB hm hc
    have lt1 := rst_lt (V := val L) hc
    have lt2 := rst_lt (d := d) (V := val L) (m := m + 1) (c := 8 * m / d) (by omega)
    have hh : 8 * (m + 1) - d * (8 * m / d) ≤ 32 := by omega
    have hp := pow_le hh
    obtain ⟨y0, y1⟩ : 0 ≤ ni L m ∧ ni L m < 256 := hB _ (by unfold ni; rw [List.getD_eq_getElem?_getD, List.getElem?_eq_getElem hm]; exact List.getElem_mem hm)
    have ix := ixSV_isL hx (k' := .i64) (j := (m : Int)) (by omega) (by omega)
    rw [Int.toNat_natCast] at ix
    have gx := nums_get (k := .u8) (L := L) (j := m) hm
    have ey : ni L m = ((ni L m).toNat : Int) := by omega
    have wy : IntKind.u64.wrap (ni L m) = ((ni L m).toNat : Int) := by rw [ey]; simp only [Int.toNat_natCast]; exact u64_nat (by omega)
    have hle : (ni L m).toNat * 2 ^ (8 * m - d * (8 * m / d)) ≤ rst d (val L) (m + 1) (8 * m / d) := by rw [hr]; omega
    have sh := u64_shl (a := (ni L m).toNat) (d := 8 * m - d * (8 * m / d)) (by omega) (by omega)
    have or := u64_or (i := 8 * m - d * (8 * m / d)) (b := (ni L m).toNat) lt1 hr (by omega)
    have w8 : IntKind.i64.wrap (((8 * m - d * (8 * m / d) : Nat) : Int) + 8) = ((8 * (m + 1) - d * (8 * m / d) : Nat) : Int) := by rw [e8]; exact i64_in _ (by omega)
    have hlt : (m : Int) < L.length := by omega
    have wm : IntKind.i64.wrap ((m : Int) + 1) = (m : Int) + 1 := i64_in _ (by omega)
    have hc2 : d * (8 * m / d) ≤ 8 * m := hc
    have hend : 8 * (m + 1) - d * (8 * (m + 1) / d) < d := by rw [← Nat.mod_eq_sub_mul_div]; exact Nat.mod_lt _ (by omega)
    have hstep : ∀ j, j < 8 * (m + 1) / d - 8 * m / d → d * (8 * m / d + j + 1) ≤ 8 * (m + 1) := by
      intro j hj
      have : 8 * m / d + j + 1 ≤ 8 * (m + 1) / d := by omega
      have := (Nat.le_div_iff_mul_le (by omega)).1 this
      rw [Nat.mul_comm]; exact this
    clear hr hle e8 ey
    generalize hc0 : 8 * m / d = c at *
    generalize hce : 8 * (m + 1) / d = ce at *
    generalize ((ni L m).toNat * 2 ^ (8 * m - d * c) : Nat) = Y1 at *
    generalize (((ni L m).toNat : Nat) : Int) = Y at *
    generalize hR0 : ((rst d (val L) m c : Nat) : Int) = R0 at *
    generalize hH0 : ((8 * m - d * c : Nat) : Int) = H0 at *
    generalize hO0 : opnL d (val L) c = O0 at *
    simp (disch := first | assumption | omega | (simp only [lenS]; first | done | omega)) [hlt, ix, gx, wy, sh, or, w8, -shiftV_shl, -shiftV_shr]
    subst hO0
    refine w_heads (ce - c) (fun j => ⟨[(49, .i .i64 m), (48, .i .i64 L.length), (47, x), (10, .i .i64 ((8 * (m + 1) - d * (c + j) : Nat) : Int)), (9, .i .u64 ((rst d (val L) (m + 1) (c + j) : Nat) : Int)), (8, .rs 46 0 (opnL d (val L) (c + j)).length 1), (0, .i .i64 d)], [(46, nums .i64 (opnL d (val L) (c + j)))]⟩) (by simp (disch := first | assumption | omega | (simp only [lenS]; first | done | omega)) []) ?_ ?_
    · intro j hj
      have hs := hstep j hj
      have hms : d * (c + j + 1) = d * (c + j) + d := Nat.mul_succ _ _
      have o1 := rst_out (d := d) (V := val L) (m := m + 1) (c := c + j) hs
      have o2 := rst_next d (val L) (m + 1) (c + j)
      have lt := rst_lt (d := d) (V := val L) (m := m + 1) (c := c + j) (by omega)
      have hcj : d * c ≤ d * (c + j) := Nat.mul_le_mul_left d (by omega)
      have hp2 := pow_le (show 8 * (m + 1) - d * (c + j) ≤ 32 by omega)
      have a1 := u64_low (a := rst d (val L) (m + 1) (c + j)) (d := d) (by omega) (by omega)
      rw [o1] at a1
      have a2 := u64_shr (a := rst d (val L) (m + 1) (c + j)) (d := d) (by omega)
      rw [o2] at a2
      have ol := opn_lt d (val L) (c + j)
      have hp3 := pow_le d24
      have wo : IntKind.i64.wrap ((opn d (val L) (c + j) : Nat) : Int) = ((opn d (val L) (c + j) : Nat) : Int) := i64_in _ (by omega)
      have s1 := u64_shl (a := 1) (d := d) (by omega) (by omega)
      rw [Nat.one_mul, show ((1 : Nat) : Int) = 1 from rfl] at s1
      have hp0 : 0 < 2 ^ d := Nat.pow_pos (by omega)
      have w2 : IntKind.u64.wrap (((2 ^ d : Nat) : Int) - 1) = ((2 ^ d - 1 : Nat) : Int) := by
        rw [show ((2 ^ d : Nat) : Int) - 1 = ((2 ^ d - 1 : Nat) : Int) by omega]; exact u64_nat (by omega)
      have hge : (d : Int) ≤ ((8 * (m + 1) - d * (c + j) : Nat) : Int) := by omega
      have wH : IntKind.i64.wrap (((8 * (m + 1) - d * (c + j) : Nat) : Int) - d) = ((8 * (m + 1) - d * (c + j + 1) : Nat) : Int) := by
        rw [show ((8 * (m + 1) - d * (c + j) : Nat) : Int) - d = ((8 * (m + 1) - d * (c + j + 1) : Nat) : Int) by omega]; exact i64_in _ (by omega)
      have hol := opnL_len d (val L) (c + j)
      have hcl : c + j + 1 ≤ d * (c + j + 1) := Nat.le_mul_of_pos_left _ (by omega)
      rw [show c + (j + 1) = c + j + 1 from rfl, opnL_succ]
      have hb1 : (((opnL d (val L) (c + j)).length : Int) + 1) * 8 ≤ 140737488355328 := by omega
      generalize ((2 ^ d - 1 : Nat) : Int) = P1 at *
      generalize ((2 ^ d : Nat) : Int) = P0 at *
      generalize ((rst d (val L) (m + 1) (c + j) : Nat) : Int) = R1 at *
      generalize ((rst d (val L) (m + 1) (c + j + 1) : Nat) : Int) = R2 at *
      generalize ((8 * (m + 1) - d * (c + j) : Nat) : Int) = H1 at *
      generalize ((8 * (m + 1) - d * (c + j + 1) : Nat) : Int) = H2 at *
      generalize ((opn d (val L) (c + j) : Nat) : Int) = y at *
      generalize opnL d (val L) (c + j) = O at *
      simp (disch := first | assumption | omega | (simp only [lenS]; first | done | omega)) [hge, s1, w2, a1, a2, wo, wH, -shiftV_shl, -shiftV_shr]
    · have hcc2 : c + (ce - c) = ce := by omega
      rw [hcc2]
      have hng : ¬ (d : Int) ≤ ((8 * (m + 1) - d * ce : Nat) : Int) := by omega
      generalize ((rst d (val L) (m + 1) ce : Nat) : Int) = R2 at *
      generalize ((8 * (m + 1) - d * ce : Nat) : Int) = H2 at *
      generalize opnL d (val L) ce = O at *
      simp (disch := first | assumption | omega | (simp only [lenS]; first | done | omega)) [hng, wm]
  · have hn : 8 * L.length / d = n := by rw [hl]; exact Nat.mul_div_cancel_left _ (by omega)
    rw [hn]
    have hol := opnL_len d (val L) n
    generalize ((rst d (val L) L.length n : Nat) : Int) = R2 at *
    generalize ((8 * L.length - d * n : Nat) : Int) = H2 at *
    generalize opnL d (val L) n = O at *
    simp (disch := first | assumption | omega | (simp only [lenS]; first | done | omega)) [hol]
set_option maxHeartbeats 8000000 in
theorem dOpenB {d n : Nat} (d1 : 1 ≤ d) (d24 : d ≤ 24) (n1 : 1 ≤ n) (n4 : n ≤ 4096) {x : AV} {L : List Int} (hx : IsL .u8 x L) (hI : ∀ y ∈ L, inK .u8 y) (hl : 8 * L.length = d * n) :
    FF tab 67 [.i .i64 d, .i .i64 n, x] = some ⟨.tp [.os (nums .i64 (opnL d (val L) n)) n 1, .i .i64 0], []⟩ := by
  refine call_by (A := A67) rfl rfl ?_
  have hB := by8_in hI
  have fx := hx.flat
  have lx := lenV_isL hx
  have hdn : d * n ≤ 24 * 4096 := Nat.mul_le_mul d24 n4
  have w1 : IntKind.i64.wrap ((d : Int) * n) = ((8 * L.length : Nat) : Int) := by
    rw [show ((d : Int) * n) = ((8 * L.length : Nat) : Int) by rw [hl]; simp]; exact i64_in _ (by omega)
  have r1 : ((8 * L.length : Nat) : Int).tmod 8 = 0 := by rw [Int.tmod_eq_emod_of_nonneg (by omega)]; omega
  have q1 : ((8 * L.length : Nat) : Int).tdiv 8 = L.length := by rw [Int.tdiv_eq_ediv_of_nonneg (by omega)]; omega
  have q2 : IntKind.i64.wrap (L.length : Int) = L.length := i64_in _ (by omega)
  have c1 : ¬ (d : Int) < 1 := by omega
  have c2 : ¬ (24 : Int) < d := by omega
  have c3 : ¬ (n : Int) < 0 := by omega
  have c4 : ¬ (4096 : Int) < n := by omega
  have hp3 := pow_le d24
  generalize hT : ((8 * L.length : Nat) : Int) = T8 at *
  clear hT
  simp (disch := first | assumption | omega | (simp only [lenS]; first | done | omega)) [A67, c1, c2, c3, c4, lx, w1, r1, q1, q2]
  refine w_heads n (fun i => ⟨[(9, .i .i64 i), (8, .rs 8 0 (opnL d (val L) i).length 1), (2, x), (1, .i .i64 n), (0, .i .i64 d)], [(8, nums .i64 (opnL d (val L) i))]⟩) (by simp (disch := first | assumption | omega | (simp only [lenS]; first | done | omega)) [opnL, nums_nil]) ?_ ?_
  · intro i hi
    have hin : (i : Int) < n := by omega
    have hmul : d * (i + 1) ≤ d * n := Nat.mul_le_mul_left d (by omega)
    rw [Nat.mul_succ] at hmul
    have wi : IntKind.i64.wrap ((i : Int) + 1) = (i : Int) + 1 := i64_in _ (by omega)
    have wd : IntKind.i64.wrap ((i : Int) * d) = ((d * i : Nat) : Int) := by
      rw [show ((i : Int) * d) = ((d * i : Nat) : Int) by rw [Nat.mul_comm]; simp]; exact i64_in _ (by omega)
    have ol := opn_lt d (val L) i
    have hol := opnL_len d (val L) i
    have hb1 : (((opnL d (val L) i).length : Int) + 1) * 8 ≤ 140737488355328 := by omega
    rw [opnL_succ]
    generalize hO : opnL d (val L) i = O at *
    clear hO hol
    simp (disch := first | assumption | omega | (simp only [lenS]; first | done | omega)) [hin]
    refine w_heads d (fun k => ⟨[(11, .i .i64 k), (10, .i .i64 ((val L / 2 ^ (d * i) % 2 ^ k : Nat) : Int)), (9, .i .i64 i), (8, .rs 8 0 O.length 1), (2, x), (1, .i .i64 n), (0, .i .i64 d)], [(8, nums .i64 O)]⟩) (by simp (disch := first | assumption | omega | (simp only [lenS]; first | done | omega)) [Nat.mod_one]) ?_ ?_
    · intro k hk
      have hk2 : (k : Int) < d := by omega
      have wk : IntKind.i64.wrap ((k : Int) + 1) = (k : Int) + 1 := i64_in _ (by omega)
      have wa : IntKind.i64.wrap (((d * i : Nat) : Int) + k) = ((d * i + k : Nat) : Int) := by
        rw [show ((d * i : Nat) : Int) + k = ((d * i + k : Nat) : Int) by omega]; exact i64_in _ (by omega)
      have ha : (d * i + k) / 8 < L.length := by omega
      have hb := val_bit hB ha
      have eb := opn_bit d (val L) i k
      have td : ((d * i + k : Nat) : Int).tdiv 8 = (((d * i + k) / 8 : Nat) : Int) := by rw [Int.tdiv_eq_ediv_of_nonneg (by omega)]; omega
      have tm : ((d * i + k : Nat) : Int).tmod 8 = (((d * i + k) % 8 : Nat) : Int) := by rw [Int.tmod_eq_emod_of_nonneg (by omega)]; omega
      have wq : IntKind.i64.wrap (((d * i + k) / 8 : Nat) : Int) = (((d * i + k) / 8 : Nat) : Int) := i64_in _ (by omega)
      have wm : IntKind.u64.wrap (((d * i + k) % 8 : Nat) : Int) = (((d * i + k) % 8 : Nat) : Int) := u64_nat (by omega)
      have wu : IntKind.u64.wrap (k : Int) = (k : Int) := u64_nat (by omega)
      have ix := ixSV_isL hx (k' := .i64) (j := (((d * i + k) / 8 : Nat) : Int)) (by omega) (by omega)
      rw [Int.toNat_natCast] at ix
      have gx := nums_get (k := .u8) (L := L) (j := (d * i + k) / 8) ha
      obtain ⟨y0, y1⟩ : 0 ≤ ni L ((d * i + k) / 8) ∧ ni L ((d * i + k) / 8) < 256 := hB _ (by unfold ni; rw [List.getD_eq_getElem?_getD, List.getElem?_eq_getElem ha]; exact List.getElem_mem ha)
      have ey : ni L ((d * i + k) / 8) = ((ni L ((d * i + k) / 8)).toNat : Int) := by omega
      rw [ey] at gx
      have h8 : (d * i + k) % 8 < 8 := Nat.mod_lt _ (by omega)
      have sr := u8_shr (a := (ni L ((d * i + k) / 8)).toNat) (d := (d * i + k) % 8) (by omega)
      have hy : (ni L ((d * i + k) / 8)).toNat / 2 ^ ((d * i + k) % 8) ≤ (ni L ((d * i + k) / 8)).toNat := Nat.div_le_self _ _
      have an := u8_one (a := (ni L ((d * i + k) / 8)).toNat / 2 ^ ((d * i + k) % 8)) (by omega)
      rw [hb] at an
      have hpk := pow_le (show k ≤ 24 by omega)
      have hpk1 := pow_le (show k + 1 ≤ 24 by omega)
      have bl : val L / 2 ^ (d * i + k) % 2 < 2 := Nat.mod_lt _ (by omega)
      have wb : IntKind.i64.wrap ((val L / 2 ^ (d * i + k) % 2 : Nat) : Int) = ((val L / 2 ^ (d * i + k) % 2 : Nat) : Int) := i64_in _ (by omega)
      have hsl : val L / 2 ^ (d * i + k) % 2 * 2 ^ k ≤ 1 * 2 ^ k := Nat.mul_le_mul_right _ (by omega)
      have sl := shl_by (a := val L / 2 ^ (d * i + k) % 2) (d := k) (by omega) (by omega)
      have ml : val L / 2 ^ (d * i) % 2 ^ k < 2 ^ k := Nat.mod_lt _ (Nat.pow_pos (by omega))
      have ml2 : val L / 2 ^ (d * i) % 2 ^ (k + 1) < 2 ^ (k + 1) := Nat.mod_lt _ (Nat.pow_pos (by omega))
      have or := i64_or (b := val L / 2 ^ (d * i + k) % 2) ml eb (by omega)
      clear eb hb
      generalize ((val L / 2 ^ (d * i) % 2 ^ k : Nat) : Int) = X0 at *
      generalize ((val L / 2 ^ (d * i) % 2 ^ (k + 1) : Nat) : Int) = X1 at *
      generalize ((val L / 2 ^ (d * i + k) % 2 * 2 ^ k : Nat) : Int) = B2 at *
      generalize ((val L / 2 ^ (d * i + k) % 2 : Nat) : Int) = B1 at *
      generalize (((ni L ((d * i + k) / 8)).toNat / 2 ^ ((d * i + k) % 8) : Nat) : Int) = Y1 at *
      generalize (((ni L ((d * i + k) / 8)).toNat : Nat) : Int) = Y0 at *
      generalize (((d * i + k) % 8 : Nat) : Int) = M8 at *
      generalize (((d * i + k) / 8 : Nat) : Int) = Q8 at *
      generalize ((d * i + k : Nat) : Int) = A1 at *
      generalize ((d * i : Nat) : Int) = A0 at *
      simp (disch := first | assumption | omega | (simp only [lenS]; first | done | omega)) [hk2, wk, wd, wa, td, tm, wq, wm, wu, ix, gx, sr, an, wb, sl, or, -shiftV_shl, -shiftV_shr]
    · rw [show val L / 2 ^ (d * i) % 2 ^ d = opn d (val L) i from rfl]
      generalize ((opn d (val L) i : Nat) : Int) = y at *
      simp (disch := first | assumption | omega | (simp only [lenS]; first | done | omega)) [wi]
  · have hol := opnL_len d (val L) n
    generalize opnL d (val L) n = O at *
    simp (disch := first | assumption | omega | (simp only [lenS]; first | done | omega)) [hol]
end Zab.YtbmhaamjajoggaaDoorB
