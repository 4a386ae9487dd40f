/- Numbers as bits of bytes: both functions. -/
import Derived.Test.YtbmhaamjajoggaaDoorZabY
import Derived.Test.YtbmhaamjajoggaaDoorZabG8
import Derived.Test.YtbmhaamjajoggaaDoorBZq
import Derived.Test.YtbmhaamjajoggaaDoorZabG7
namespace Zab.YtbmhaamjajoggaaDoorB
open Go
open Go.IntWalk (i64_in)
set_option maxRecDepth 100000
set_option linter.unusedSimpArgs false
set_option linter.unusedVariables false
attribute [-simp] getElem?_pos

theorem inB_ni {d : Nat} {L : List Int} (h : ∀ y ∈ L, InB d y) {i : Nat} (hi : i < L.length) : InB d (ni L i) := by
  have : ni L i = L[i] := ni_get hi
  rw [this]; exact h _ (List.getElem_mem hi)
set_option maxHeartbeats 8000000 in
theorem pBits {d : Nat} (d1 : 1 ≤ d) (d24 : d ≤ 24) {x : AV} {L : List Int} (hx : IsL .i64 x L) (hs : L.length ≤ 100000) (h8 : d * L.length % 8 = 0) (hL : ∀ y ∈ L, InB d y) :
    FF tab 57 [.i .i64 d, x] = some ⟨.tp [.os (nums .u8 (bytL (num d L) (d * L.length / 8))) (d * L.length / 8) 1, .nl], []⟩ := by
  refine call_by (A := A57) rfl rfl ?_
  have fx := hx.flat
  have lx := lenV_isL hx
  have hdl : d * L.length ≤ 24 * 100000 := Nat.mul_le_mul d24 hs
  have hdm : d * (L.length % 8) ≤ 24 * 8 := Nat.mul_le_mul d24 (by omega)
  have hm8 : d * (L.length % 8) % 8 = 0 := by rw [Nat.mul_mod, Nat.mod_mod, ← Nat.mul_mod]; exact h8
  have hM2 : L.length / 8 * d ≤ 100000 * 24 := Nat.mul_le_mul (by omega) d24
  have e1 : (L.length : Int).tmod 8 = ((L.length % 8 : Nat) : Int) := by rw [Int.tmod_eq_emod_of_nonneg (by omega)]; omega
  have e2 : IntKind.i64.wrap ((d : Int) * ((L.length % 8 : Nat) : Int)) = ((d * (L.length % 8) : Nat) : Int) := by
    rw [show (d : Int) * ((L.length % 8 : Nat) : Int) = ((d * (L.length % 8) : Nat) : Int) by rw [Int.natCast_mul]]; exact i64_in _ (by omega)
  have e3 : ((d * (L.length % 8) : Nat) : Int).tmod 8 = 0 := by rw [Int.tmod_eq_emod_of_nonneg (by omega)]; omega
  have e4 : (L.length : Int).tdiv 8 = ((L.length / 8 : Nat) : Int) := by rw [Int.tdiv_eq_ediv_of_nonneg (by omega)]; omega
  have e5 : IntKind.i64.wrap ((L.length / 8 : Nat) : Int) = ((L.length / 8 : Nat) : Int) := i64_in _ (by omega)
  have e6 : IntKind.i64.wrap (((L.length / 8 : Nat) : Int) * d) = ((L.length / 8 * d : Nat) : Int) := by
    rw [show ((L.length / 8 : Nat) : Int) * d = ((L.length / 8 * d : Nat) : Int) by rw [Int.natCast_mul]]; exact i64_in _ (by omega)
  have e7 : IntKind.i64.wrap (((L.length / 8 * d : Nat) : Int) + d) = ((L.length / 8 * d + d : Nat) : Int) := by
    rw [show ((L.length / 8 * d : Nat) : Int) + d = ((L.length / 8 * d + d : Nat) : Int) by omega]; exact i64_in _ (by omega)
  obtain ⟨M, hM⟩ : ∃ M : Nat, M = L.length / 8 * d + d := ⟨_, rfl⟩
  rw [← hM] at e7
  have k1 : (0 : Int) ≤ (M : Int) := by omega
  have k2 : (M : Int) * 1 ≤ 140737488355328 := by omega
  have k3 : (M : Int).toNat = M := Int.toNat_natCast _
  have k4 : (M : Int) ≤ 140737488355328 := by omega
  have c1 : ¬ (d : Int) < 1 := by omega
  have c2 : ¬ (24 : Int) < d := by omega
  clear hM
  generalize ((L.length / 8 * d : Nat) : Int) = E1 at *
  generalize ((d * (L.length % 8) : Nat) : Int) = E2 at *
  generalize ((L.length / 8 : Nat) : Int) = E3 at *
  generalize ((L.length % 8 : Nat) : Int) = E4 at *
  simp (disch := first | assumption | omega | (simp only [lenS]; first | done | omega)) [A57, lx, e1, e2, e3, e4, e5, e6, e7, k1, k2, k3, k4, c1, c2]
  refine w_heads L.length (fun i => ⟨[(38, .i .i64 i), (37, .i .i64 L.length), (36, x), (8, .i .i64 ((d * i - 8 * (d * i / 8) : Nat) : Int)), (7, .i .u64 ((rs2 8 (num d L) (d * i) (d * i / 8) : Nat) : Int)), (6, .rs 35 0 (bytL (num d L) (d * i / 8)).length 1), (0, .i .i64 d)], [(35, nums .u8 (bytL (num d L) (d * i / 8)))]⟩) (by simp (disch := first | assumption | omega | (simp only [lenS]; first | done | omega)) [bytL, rs2, Nat.zero_div, Nat.mod_one, nums_nil]) ?_ ?_
  · intro i hi
    have hms : d * (i + 1) = d * i + d := Nat.mul_succ _ _
    have hil : d * (i + 1) ≤ d * L.length := Nat.mul_le_mul_left d hi
    have hc : 8 * (d * i / 8) ≤ d * i := by omega
    have hcc : d * i / 8 ≤ d * (i + 1) / 8 := Nat.div_le_div_right (by omega)
    have hr := rs2_add (e := 8) (W := num d L) (t := d * i) (c := d * i / 8) (k := d) hc
    rw [← num_at hL hi, ← hms] at hr
    have lt1 := rs2_lt (e := 8) (W := num d L) hc
    have lt2 := rs2_lt (e := 8) (W := num d L) (t := d * (i + 1)) (c := d * i / 8) (by omega)
    have hh : d * (i + 1) - 8 * (d * i / 8) ≤ 32 := by omega
    have hp := pow_le hh
    have hp3 := pow_le d24
    obtain ⟨y0, y1⟩ := inB_ni hL hi
    have ix := ixSV_isL hx (k' := .i64) (j := (i : Int)) (by omega) (by omega)
    rw [Int.toNat_natCast] at ix
    have gx := nums_get (k := .i64) (L := L) (j := i) hi
    have ey : ni L i = ((ni L i).toNat : Int) := by omega
    have wy : IntKind.u64.wrap (ni L i) = ((ni L i).toNat : Int) := by rw [ey]; simp only [Int.toNat_natCast]; exact u64_nat (by omega)
    have hle : (ni L i).toNat * 2 ^ (d * i - 8 * (d * i / 8)) ≤ rs2 8 (num d L) (d * (i + 1)) (d * i / 8) := by rw [hr]; omega
    have sh := u64_shl (a := (ni L i).toNat) (d := d * i - 8 * (d * i / 8)) (by omega) (by omega)
    have or := u64_or (i := d * i - 8 * (d * i / 8)) (b := (ni L i).toNat) lt1 hr (by omega)
    have w8 : IntKind.i64.wrap (((d * i - 8 * (d * i / 8) : Nat) : Int) + d) = ((d * (i + 1) - 8 * (d * i / 8) : Nat) : Int) := by
      rw [show ((d * i - 8 * (d * i / 8) : Nat) : Int) + d = ((d * (i + 1) - 8 * (d * i / 8) : Nat) : Int) by omega]; exact i64_in _ (by omega)
    have hlt : (i : Int) < L.length := by omega
    have wi : IntKind.i64.wrap ((i : Int) + 1) = (i : Int) + 1 := i64_in _ (by omega)
    have s1 := shl_one (d := d) (by omega)
    have n0 : ¬ ni L i < 0 := by omega
    have n1 : ¬ ((2 ^ d : Nat) : Int) ≤ ni L i := by omega
    have hend : d * (i + 1) - 8 * (d * (i + 1) / 8) < 8 := by omega
    have hstep : ∀ j, j < d * (i + 1) / 8 - d * i / 8 → 8 * (d * i / 8 + j + 1) ≤ d * (i + 1) := by
      intro j hj
      omega
    have hcl : d * (i + 1) / 8 ≤ 300000 := by omega
    clear hr hle ey hms
    generalize hc0 : d * i / 8 = c at *
    generalize hce : d * (i + 1) / 8 = ce at *
    generalize ((ni L i).toNat * 2 ^ (d * i - 8 * c) : Nat) = Y1 at *
    generalize (((ni L i).toNat : Nat) : Int) = Y at *
    generalize ni L i = y at *
    generalize ((2 ^ d : Nat) : Int) = P2 at *
    generalize hR0 : ((rs2 8 (num d L) (d * i) c : Nat) : Int) = R0 at *
    generalize hH0 : ((d * i - 8 * c : Nat) : Int) = H0 at *
    generalize hO0 : bytL (num d L) c = O0 at *
    simp (disch := first | assumption | omega | (simp only [lenS]; first | done | omega)) [hlt, ix, gx, wy, sh, or, w8, s1, n0, n1, -shiftV_shl, -shiftV_shr]
    subst hO0
    refine w_heads (ce - c) (fun j => ⟨[(38, .i .i64 i), (37, .i .i64 L.length), (36, x), (8, .i .i64 ((d * (i + 1) - 8 * (c + j) : Nat) : Int)), (7, .i .u64 ((rs2 8 (num d L) (d * (i + 1)) (c + j) : Nat) : Int)), (6, .rs 35 0 (bytL (num d L) (c + j)).length 1), (0, .i .i64 d)], [(35, nums .u8 (bytL (num d L) (c + j)))]⟩) (by simp (disch := first | assumption | omega | (simp only [lenS]; first | done | omega)) []) ?_ ?_
    · intro j hj
      have hs2 := hstep j hj
      have o1 := rs2_out (e := 8) (W := num d L) (t := d * (i + 1)) (c := c + j) hs2
      have o2 := rs2_next 8 (num d L) (d * (i + 1)) (c + j)
      have lt := rs2_lt (e := 8) (W := num d L) (t := d * (i + 1)) (c := c + j) (by omega)
      have hp2 := pow_le (show d * (i + 1) - 8 * (c + j) ≤ 32 by omega)
      have a2 := shr_at (k := .u64) (a := rs2 8 (num d L) (d * (i + 1)) (c + j)) (d := 8) (by show 8 ≤ 64; omega)
      rw [o2, show ((8 : Nat) : Int) = 8 from rfl] at a2
      have wo : IntKind.u8.wrap ((rs2 8 (num d L) (d * (i + 1)) (c + j) : Nat) : Int) = ((byt (num d L) (c + j) : Nat) : Int) := by
        have e : byt (num d L) (c + j) = rs2 8 (num d L) (d * (i + 1)) (c + j) % 256 := by rw [show (256 : Nat) = 2 ^ 8 from rfl, o1]; rfl
        rw [e]
        show _ % (256 : Int) = _
        omega
      have hge : (8 : Int) ≤ ((d * (i + 1) - 8 * (c + j) : Nat) : Int) := by omega
      have wH : IntKind.i64.wrap (((d * (i + 1) - 8 * (c + j) : Nat) : Int) - 8) = ((d * (i + 1) - 8 * (c + j + 1) : Nat) : Int) := by
        rw [show ((d * (i + 1) - 8 * (c + j) : Nat) : Int) - 8 = ((d * (i + 1) - 8 * (c + j + 1) : Nat) : Int) by omega]; exact i64_in _ (by omega)
      have hol := bytL_len (num d L) (c + j)
      rw [show c + (j + 1) = c + j + 1 from rfl, bytL_succ]
      have hb1 : (((bytL (num d L) (c + j)).length : Int) + 1) * 1 ≤ 140737488355328 := by omega
      generalize ((rs2 8 (num d L) (d * (i + 1)) (c + j) : Nat) : Int) = R1 at *
      generalize ((rs2 8 (num d L) (d * (i + 1)) (c + j + 1) : Nat) : Int) = R2 at *
      generalize ((d * (i + 1) - 8 * (c + j) : Nat) : Int) = H1 at *
      generalize ((d * (i + 1) - 8 * (c + j + 1) : Nat) : Int) = H2 at *
      generalize ((byt (num d L) (c + j) : Nat) : Int) = b at *
      generalize bytL (num d L) (c + j) = O at *
      simp (disch := first | assumption | omega | (simp only [lenS]; first | done | omega)) [hge, a2, wo, wH, -shiftV_shl, -shiftV_shr]
    · have hcc2 : c + (ce - c) = ce := by omega
      rw [hcc2]
      have hng : ¬ (8 : Int) ≤ ((d * (i + 1) - 8 * ce : Nat) : Int) := by omega
      generalize ((rs2 8 (num d L) (d * (i + 1)) ce : Nat) : Int) = R2 at *
      generalize ((d * (i + 1) - 8 * ce : Nat) : Int) = H2 at *
      generalize bytL (num d L) ce = O at *
      simp (disch := first | assumption | omega | (simp only [lenS]; first | done | omega)) [hng, wi]
  · have hol := bytL_len (num d L) (d * L.length / 8)
    generalize ((rs2 8 (num d L) (d * L.length) (d * L.length / 8) : Nat) : Int) = R2 at *
    generalize ((d * L.length - 8 * (d * L.length / 8) : Nat) : Int) = H2 at *
    generalize bytL (num d L) (d * L.length / 8) = O at *
    simp (disch := first | assumption | omega | (simp only [lenS]; first | done | omega)) [hol]
set_option maxHeartbeats 8000000 in
theorem dBits {d : Nat} (d1 : 1 ≤ d) (d24 : d ≤ 24) {x : AV} {L : List Int} (hx : IsL .i64 x L) (hs : L.length ≤ 100000) (h8 : d * L.length % 8 = 0) (hL : ∀ y ∈ L, InB d y) :
    FF tab 62 [.i .i64 d, x] = some ⟨.tp [.os (nums .u8 (bytL (num d L) (d * L.length / 8))) (d * L.length / 8) 1, .i .i64 0], []⟩ := by
  refine call_by (A := A62) rfl rfl ?_
  have fx := hx.flat
  have lx := lenV_isL hx
  have hdl : d * L.length ≤ 24 * 100000 := Nat.mul_le_mul d24 hs
  have hp3 := pow_le d24
  have e1 : IntKind.i64.wrap ((L.length : Int) * d) = ((d * L.length : Nat) : Int) := by
    rw [show (L.length : Int) * d = ((d * L.length : Nat) : Int) by rw [Int.natCast_mul, Int.mul_comm]]; exact i64_in _ (by omega)
  have e2 : ((d * L.length : Nat) : Int).tmod 8 = 0 := by rw [Int.tmod_eq_emod_of_nonneg (by omega)]; omega
  have e3 : ((d * L.length : Nat) : Int).tdiv 8 = ((d * L.length / 8 : Nat) : Int) := by rw [Int.tdiv_eq_ediv_of_nonneg (by omega)]; omega
  have e4 : IntKind.i64.wrap ((d * L.length / 8 : Nat) : Int) = ((d * L.length / 8 : Nat) : Int) := i64_in _ (by omega)
  obtain ⟨M, hM⟩ : ∃ M : Nat, M = d * L.length / 8 := ⟨_, rfl⟩
  rw [← hM] at e3 e4 ⊢
  have hM8 : d * L.length = 8 * M := by omega
  have k1 : (0 : Int) ≤ (M : Int) := by omega
  have k2 : (M : Int) * 1 ≤ 140737488355328 := by omega
  have k3 : (M : Int).toNat = M := Int.toNat_natCast _
  have k4 : (M : Int) ≤ 140737488355328 := by omega
  have c1 : ¬ (d : Int) < 1 := by omega
  have c2 : ¬ (24 : Int) < d := by omega
  clear hM
  generalize ((d * L.length : Nat) : Int) = E1 at *
  simp (disch := first | assumption | omega | (simp only [lenS]; first | done | omega)) [A62, lx, e1, e2, e3, e4, k1, k2, k3, k4, c1, c2]
  refine w_heads L.length (fun i => ⟨[(7, .i .i64 i), (6, .rs 27 0 M 1), (1, x), (0, .i .i64 d)], [(27, nums .u8 (bytL (num d L % 2 ^ (d * i)) M))]⟩) (by simp (disch := first | assumption | omega | (simp only [lenS]; first | done | omega)) [Nat.mod_one, bytL_zero, nums_zrep]) ?_ ?_
  · intro i hi
    have hms : d * (i + 1) = d * i + d := Nat.mul_succ _ _
    have hil : d * (i + 1) ≤ d * L.length := Nat.mul_le_mul_left d hi
    obtain ⟨y0, y1⟩ := inB_ni hL hi
    have ix := ixSV_isL hx (k' := .i64) (j := (i : Int)) (by omega) (by omega)
    rw [Int.toNat_natCast] at ix
    have gx := nums_get (k := .i64) (L := L) (j := i) hi
    have hlt : (i : Int) < L.length := by omega
    have wi : IntKind.i64.wrap ((i : Int) + 1) = (i : Int) + 1 := i64_in _ (by omega)
    have wu : IntKind.u64.wrap (d : Int) = (d : Int) := u64_nat (by omega)
    have s1 := shl_one (d := d) (by omega)
    have n0 : ¬ ni L i < 0 := by omega
    have n1 : ¬ ((2 ^ d : Nat) : Int) ≤ ni L i := by omega
    have m1 : IntKind.i64.wrap ((i : Int) * d) = ((d * i : Nat) : Int) := by
      rw [show (i : Int) * d = ((d * i : Nat) : Int) by rw [Int.natCast_mul, Int.mul_comm]]; exact i64_in _ (by omega)
    have ey : ni L i = ((ni L i).toNat : Int) := by omega
    have hy24 : (ni L i).toNat < 2 ^ 24 := by omega
    have hnb := fun k (hk : k < d) => num_bit hL hi hk
    have hrow : ∀ t, (bytL (num d L % 2 ^ t) M).length = M := fun t => bytL_len _ _
    generalize ((2 ^ d : Nat) : Int) = P2 at *
    simp (disch := first | assumption | omega | (simp only [lenS]; first | done | omega)) [hlt, lx, ix, gx, wu, s1, n0, n1, -shiftV_shl, -shiftV_shr]
    refine w_heads d (fun k => ⟨[(8, .i .i64 k), (7, .i .i64 i), (6, .rs 27 0 M 1), (1, x), (0, .i .i64 d)], [(27, nums .u8 (bytL (num d L % 2 ^ (d * i + k)) M))]⟩) (by simp (disch := first | assumption | omega | (simp only [lenS]; first | done | omega)) []) ?_ ?_
    · intro k hk
      have hk2 : (k : Int) < d := by omega
      have wk : IntKind.i64.wrap ((k : Int) + 1) = (k : Int) + 1 := i64_in _ (by omega)
      have wku : IntKind.u64.wrap (k : Int) = (k : Int) := u64_nat (by omega)
      have ht : (d * i + k) / 8 < M := by omega
      have m2 : IntKind.i64.wrap (((d * i : Nat) : Int) + k) = ((d * i + k : Nat) : Int) := by
        rw [show ((d * i : Nat) : Int) + k = ((d * i + k : Nat) : Int) by omega]; exact i64_in _ (by omega)
      have td : ((d * i + k : Nat) : Int).tdiv 8 = (((d * i + k) / 8 : Nat) : Int) := by rw [Int.tdiv_eq_ediv_of_nonneg (by omega)]; omega
      have tm : ((d * i + k : Nat) : Int).tmod 8 = (((d * i + k) % 8 : Nat) : Int) := by rw [Int.tmod_eq_emod_of_nonneg (by omega)]; omega
      have wq : IntKind.i64.wrap (((d * i + k) / 8 : Nat) : Int) = (((d * i + k) / 8 : Nat) : Int) := i64_in _ (by omega)
      have wm : IntKind.u64.wrap (((d * i + k) % 8 : Nat) : Int) = (((d * i + k) % 8 : Nat) : Int) := u64_nat (by omega)
      have hlt8 : (d * i + k) % 8 < 8 := Nat.mod_lt _ (by omega)
      obtain ⟨b1, b2⟩ := byt_bit (num d L) (d * i + k)
      have bs := bytL_set (num d L) (d * i + k) M ht
      rw [show d * i + (k + 1) = d * i + k + 1 from rfl]
      have bl := byt_lt (num d L % 2 ^ (d * i + k + 1)) ((d * i + k) / 8)
      have hb2 : num d L / 2 ^ (d * i + k) % 2 < 2 := Nat.mod_lt _ (by omega)
      have sr := shr_by (a := (ni L i).toNat) (d := k) (by omega)
      rw [← ey] at sr
      have hyd : (ni L i).toNat / 2 ^ k ≤ (ni L i).toNat := Nat.div_le_self _ _
      have an := and_one (a := (ni L i).toNat / 2 ^ k) (by omega)
      rw [hnb k hk] at an
      have wb : IntKind.u8.wrap ((num d L / 2 ^ (d * i + k) % 2 : Nat) : Int) = ((num d L / 2 ^ (d * i + k) % 2 : Nat) : Int) := u8_nat (by omega)
      have sl := shl_at (k := .u8) (a := num d L / 2 ^ (d * i + k) % 2) (d := (d * i + k) % 8) (by show _ ≤ 8; omega) (u8_nat (by omega))
      have or := u8_or (b := num d L / 2 ^ (d * i + k) % 2) b2 b1 bl
      have gB := nums_get (k := .u8) (L := bytL (num d L % 2 ^ (d * i + k)) M) (j := (d * i + k) / 8) (by rw [hrow]; exact ht)
      rw [bytL_ni _ ht] at gB
      have h0 := hrow (d * i + k)
      have p0 : (0 : Int) ≤ (((d * i + k) / 8 : Nat) : Int) := by omega
      have p1 : (((d * i + k) / 8 : Nat) : Int) < M := by omega
      have p2 : (((d * i + k) / 8 : Nat) : Int).toNat = (d * i + k) / 8 := Int.toNat_natCast _
      clear b1 b2 hnb
      generalize bytL (num d L % 2 ^ (d * i + k + 1)) M = T1 at *
      generalize bytL (num d L % 2 ^ (d * i + k)) M = T0 at *
      generalize ((byt (num d L % 2 ^ (d * i + k + 1)) ((d * i + k) / 8) : Nat) : Int) = V1 at *
      generalize ((byt (num d L % 2 ^ (d * i + k)) ((d * i + k) / 8) : Nat) : Int) = V0 at *
      generalize ((num d L / 2 ^ (d * i + k) % 2 * 2 ^ ((d * i + k) % 8) : Nat) : Int) = B2 at *
      generalize ((num d L / 2 ^ (d * i + k) % 2 : Nat) : Int) = B1 at *
      generalize (((ni L i).toNat / 2 ^ k : Nat) : Int) = Y1 at *
      generalize ni L i = y at *
      generalize (((d * i + k) % 8 : Nat) : Int) = M8 at *
      generalize hQ : (((d * i + k) / 8 : Nat) : Int) = Q8 at *
      generalize (d * i + k) / 8 = J at *
      generalize ((d * i + k : Nat) : Int) = A1 at *
      generalize ((d * i : Nat) : Int) = A0 at *
      simp (disch := first | assumption | omega | (simp only [lenS]; first | done | omega)) [hk2, wk, wku, m1, m2, td, tm, wq, wm, ix, gx, sr, an, wb, sl, or, gB, h0, bs, p0, p1, p2, -shiftV_shl, -shiftV_shr]
    · rw [← hms]
      generalize bytL (num d L % 2 ^ (d * (i + 1))) M = T1 at *
      simp (disch := first | assumption | omega | (simp only [lenS]; first | done | omega)) [wi]
  · have hnl : num d L % 2 ^ (d * L.length) = num d L := Nat.mod_eq_of_lt (num_lt hL)
    rw [hnl]
    have hol := bytL_len (num d L) M
    generalize bytL (num d L) M = O at *
    simp (disch := first | assumption | omega | (simp only [lenS]; first | done | omega)) [lx, hol]
end Zab.YtbmhaamjajoggaaDoorB
