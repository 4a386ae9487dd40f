/- Sponges, in the document's words. -/
import Derived.Test.YtjnomoefbffpoaaDoorZabY
import Derived.Test.YtjnomoefbffpoaaDoorZabG8
import Derived.Test.YtjnomoefbffpoaaDoorBSpo2
import Derived.Test.YtjnomoefbffpoaaDoorBKecF
namespace Zab.YtjnomoefbffpoaaDoorB
open Go
open Go.IntWalk (i64_in)
set_option maxRecDepth 100000
set_option linter.unusedSimpArgs false
set_option linter.unusedVariables false
attribute [-simp] getElem?_pos
attribute [local simp] sees_nil sees_rf sees_i sees_sl sees_z sees_rs sees_fl

theorem pfPermute (L : List Ln) (hL : L.length = 25) : FF tab 32 [.ag (lanes L)] = some ⟨.ag (lanes (perm L)), []⟩ := by
  rw [← perm_def]; exact fPermute L hL
theorem u64_i {n : Nat} (h : n < 1000) : IntKind.u64.wrap (n : Int) = n := by
  have : IntKind.u64.wrap (n : Int) = (n : Int) % 18446744073709551616 := rfl
  rw [this]; omega

set_option maxHeartbeats 4000000 in
theorem dMix {A : List Ln} (hA : A.length = 25) (r x p : Int) (s : Bool) {j : Nat} (hj : j < 192) {y : Int} (y0 : 0 ≤ y) (y1 : y < 256) :
    FF tab 31 [.op (spD A r x p s), .i .i64 j, .i .u8 y] = some ⟨.tp [], [spD (mixA A j y) r x p s]⟩ := by
  refine call_by (A := A31) rfl rfl ?_
  have h1 : (j : Int).tdiv 8 = ((j / 8 : Nat) : Int) := rfl
  have h2 : (j : Int).tmod 8 = ((j % 8 : Nat) : Int) := rfl
  have w1 : IntKind.i64.wrap ((j / 8 : Nat) : Int) = ((j / 8 : Nat) : Int) := i64_in _ (by omega)
  have w2 : IntKind.i64.wrap (((j % 8 : Nat) : Int) * 8) = ((8 * (j % 8) : Nat) : Int) := by rw [i64_in _ (by omega)]; omega
  have w3 := u64_i (n := 8 * (j % 8)) (by omega)
  have t1 : ((j / 8 : Nat) : Int).toNat = j / 8 := Int.toNat_natCast _
  have b1 : 0 ≤ ((j / 8 : Nat) : Int) ∧ ((j / 8 : Nat) : Int) < 25 := by omega
  have b2 : j / 8 < 25 := by omega
  obtain ⟨y2, y3⟩ := shl_byte y y0 y1 (n := 8 * (j % 8)) (by omega)
  have g := spD_lane (r := r) (x := x) (p := p) (s := s) hA b2
  have hx := bitV_xor (nl A (j / 8)) (BitVec.ofInt 64 y <<< (8 * (j % 8)))
  have hs := spD_setl (r := r) (x := x) (p := p) (s := s) hA b2 (nl A (j / 8) ^^^ (BitVec.ofInt 64 y <<< (8 * (j % 8))))
  have hl := spD_len (r := r) (x := x) (p := p) (s := s) hA
  have hm : mixA A j y = A.set (j / 8) (nl A (j / 8) ^^^ (BitVec.ofInt 64 y <<< (8 * (j % 8)))) := rfl
  rw [hm]
  generalize nl A (j / 8) ^^^ (BitVec.ofInt 64 y <<< (8 * (j % 8))) = V at *
  generalize BitVec.ofInt 64 y <<< (8 * (j % 8)) = U at *
  generalize ((8 * (j % 8) : Nat) : Int) = E at *
  generalize ((j % 8 : Nat) : Int) = M at *
  generalize ((j / 8 : Nat) : Int) = D at *
  generalize j / 8 = J at *
  simp (disch := first | assumption | omega | (simp only [List.length_cons, List.length_nil, List.length_set, List.length_append, List.length_replicate, List.length_map, List.length_range, List.length_take, List.length_drop, nums_length, bools_length, vecs_length]; first | done | omega)) [A31, h1, h2, w1, w2, w3, t1, y2, y3, g, hx, hs, -shiftV_shl, -shiftV_shr]

set_option maxHeartbeats 4000000 in
theorem dAbsorb {A : List Ln} (hA : A.length = 25) {R p : Nat} (hR : R ≤ 192) (hp : p < R) (X : Int) {x : AV} {L : List Int} (hx : IsL .u8 x L) (hBL : Bys L) :
    FF tab 13 [.op (spD A R X p false), x] = some ⟨.i .i64 0, [spD (takeL R (A, p) L).1 R X (takeL R (A, p) L).2 false]⟩ := by
  refine call_by (A := A13) rfl rfl ?_
  have hB := hBL.byte
  have hs := hBL.short
  have fx := hx.flat
  have lx := lenV_isL hx
  have h28 := spD_28 (r := R) (x := X) (p := (p : Int)) (s := false) hA
  have ll := spD_len (r := R) (x := X) (p := (p : Int)) (s := false) hA
  simp (disch := first | assumption | omega | (simp only [List.length_cons, List.length_nil, List.length_set, List.length_append, List.length_replicate, List.length_map, List.length_range, List.length_take, List.length_drop, nums_length, bools_length, vecs_length]; first | done | omega)) [A13, lx, h28]
  refine w_heads L.length (fun k => ⟨[(5, .i .i64 k), (1, x), (0, .rf 0 0)], [(0, spD (takeL R (A, p) (L.take k)).1 R X (takeL R (A, p) (L.take k)).2 false)]⟩) (by simp (disch := first | assumption | omega | (simp only [List.length_cons, List.length_nil, List.length_set, List.length_append, List.length_replicate, List.length_map, List.length_range, List.length_take, List.length_drop, nums_length, bools_length, vecs_length]; first | done | omega)) [takeL_nil]) ?_ ?_
  · intro k hk
    have wk : IntKind.i64.wrap ((k : Int) + 1) = (k : Int) + 1 := i64_in _ (by omega)
    have hkn : (k : Int).toNat = k := Int.toNat_natCast _
    have hkL : (k : Int) < (L.length : Int) := by omega
    have ix := ixSV_isL hx (k' := .i64) (j := (k : Int)) (by omega) (by omega)
    rw [hkn] at ix
    have gx := nums_get (k := .u8) (L := L) (j := k) (by omega)
    obtain ⟨y0, y1⟩ := byte_at hB hk
    obtain ⟨a1, a2⟩ := takeL_ok (R := R) (L.take k) (S := (A, p)) hA hp
    have hstep := take_step R (A, p) L hk
    rw [hstep]
    generalize takeL R (A, p) (L.take k) = S at *
    obtain ⟨B, q⟩ := S
    simp only at a1 a2 ⊢
    have hM := dMix a1 R X q false (j := q) (by omega) y0 y1
    have hm1 : (mixA B q (ni L k)).length = 25 := by rw [mixA_len]; exact a1
    have hP := pfPermute (mixA B q (ni L k)) hm1
    have hpl := perm_len hm1
    have wq : IntKind.i64.wrap ((q : Int) + 1) = ((q + 1 : Nat) : Int) := i64_in _ (by omega)
    have g0 := spD_0 (A := mixA B q (ni L k)) (r := R) (x := X) (p := ((q + 1 : Nat) : Int)) (s := false)
    have g27 := spD_27 (r := R) (x := X) (p := (q : Int)) (s := false) hm1
    have g27' := spD_27 (r := R) (x := X) (p := ((q + 1 : Nat) : Int)) (s := false) hm1
    have s27 := spD_set27 (r := R) (x := X) (p := (q : Int)) (s := false) hm1 ((q + 1 : Nat) : Int)
    have s27' := spD_set27 (r := R) (x := X) (p := ((q + 1 : Nat) : Int)) (s := false) hpl 0
    have h27 := spD_27 (r := R) (x := X) (p := (q : Int)) (s := false) a1
    have pt := spD_part (r := R) (x := X) (p := ((q + 1 : Nat) : Int)) (s := false) hm1
    have ov := spD_over (r := R) (x := X) (p := ((q + 1 : Nat) : Int)) (s := false) hm1 hpl
    have l0 := spD_len (r := R) (x := X) (p := (q : Int)) (s := false) a1
    have l1 := spD_len (r := R) (x := X) (p := (q : Int)) (s := false) hm1
    have l2 := spD_len (r := R) (x := X) (p := ((q + 1 : Nat) : Int)) (s := false) hm1
    have l3 := spD_len (r := R) (x := X) (p := ((q + 1 : Nat) : Int)) (s := false) hpl
    have hl25 := lanes_25 hpl
    by_cases hq : q + 1 = R
    · have ht : tk1 R (B, q) (ni L k) = (perm (mixA B q (ni L k)), 0) := by unfold tk1; exact if_pos hq
      rw [ht]
      simp only
      have hqI : ((q + 1 : Nat) : Int) = (R : Int) := by omega
      have hqd : decide (((q + 1 : Nat) : Int) = (R : Int)) = true := decide_eq_true hqI
      clear hqI hq ht hstep hB hBL ll h28
      generalize ((q + 1 : Nat) : Int) = Q1 at *
      generalize perm (mixA B q (ni L k)) = PB at *
      generalize mixA B q (ni L k) = MB at *
      generalize ni L k = Y at *
      generalize hT : (k : Int) = T at *
      simp (disch := first | assumption | omega | (simp only [List.length_cons, List.length_nil, List.length_set, List.length_append, List.length_replicate, List.length_map, List.length_range, List.length_take, List.length_drop, nums_length, bools_length, vecs_length]; first | done | omega)) [lx, hkL, ix, gx, hkn, h27, hM, g27, wq, s27, g27', g0, hqd, pt, hP, ov, s27', wk, hT]
    · have ht : tk1 R (B, q) (ni L k) = (mixA B q (ni L k), q + 1) := by unfold tk1; exact if_neg hq
      rw [ht]
      simp only
      have hqI : ¬ ((q + 1 : Nat) : Int) = (R : Int) := by omega
      clear hq ht hstep hB hBL ll h28
      generalize ((q + 1 : Nat) : Int) = Q1 at *
      generalize mixA B q (ni L k) = MB at *
      generalize ni L k = Y at *
      generalize hT : (k : Int) = T at *
      simp (disch := first | assumption | omega | (simp only [List.length_cons, List.length_nil, List.length_set, List.length_append, List.length_replicate, List.length_map, List.length_range, List.length_take, List.length_drop, nums_length, bools_length, vecs_length]; first | done | omega)) [lx, hkL, ix, gx, hkn, h27, hM, g27, wq, s27, g27', g0, hqI, wk, hT]
  · rw [List.take_length]
    generalize takeL R (A, p) L = S at *
    have lo := lent_one (spD S.1 R X S.2 false) (spD A R X p false) fx
    simp (disch := first | assumption | omega | (simp only [List.length_cons, List.length_nil, List.length_set, List.length_append, List.length_replicate, List.length_map, List.length_range, List.length_take, List.length_drop, nums_length, bools_length, vecs_length]; first | done | omega)) [lx, lo]

theorem lent_one3 (C D E : List AV) (n : Int) : lentOf [(51, E), (0, C)] 0 [.op D, .i .i64 n] = some ([C], []) := rfl
set_option maxHeartbeats 8000000 in
theorem dSqueeze {A : List Ln} (hA : A.length = 25) {R p : Nat} (hR0 : 0 < R) (hR : R ≤ 192) (hp : p < R) {X : Int} (x0 : 0 ≤ X) (x1 : X < 256) {n : Int} (n0 : 0 ≤ n) (n1 : n ≤ 1048576) :
    FF tab 15 [.op (spD A R X p false), .i .i64 n] = some ⟨.tp [.os (nums .u8 (outL R (padS R X (A, p)) n.toNat)) n.toNat 1, .i .i64 0], [spD (nextN R (padS R X (A, p)) n.toNat).1 R X (nextN R (padS R X (A, p)) n.toNat).2 true]⟩ := by
  refine call_by (A := A15) rfl rfl ?_
  have hm1 : (mixA A p X).length = 25 := by rw [mixA_len]; exact hA
  have hm2 : (mixA (mixA A p X) (R - 1) 128).length = 25 := by rw [mixA_len]; exact hm1
  have hM1 := dMix hA R X p false (j := p) (by omega) x0 x1
  have hM2 := dMix hm1 R X p false (j := R - 1) (by omega) (show (0 : Int) ≤ 128 by omega) (by omega)
  have eR : ((R - 1 : Nat) : Int) = (R : Int) - 1 := by omega
  rw [eR] at hM2
  have wR : IntKind.i64.wrap ((R : Int) - 1) = (R : Int) - 1 := i64_in _ (by omega)
  have hP := pfPermute _ hm2
  have hpl := perm_len hm2
  have hl25 := lanes_25 hpl
  obtain ⟨S, hS⟩ : ∃ S : List Ln × Nat, S = padS R X (A, p) := ⟨_, rfl⟩
  rw [← hS]
  have hS0 : S.1 = perm (mixA (mixA A p X) (R - 1) 128) ∧ S.2 = 0 := by rw [hS]; exact ⟨rfl, rfl⟩
  have hSl : S.1.length = 25 := by rw [hS0.1]; exact hpl
  have hSp : S.2 ≤ R := by rw [hS0.2]; omega
  have h28 := spD_28 (r := R) (x := X) (p := (p : Int)) (s := false) hA
  have h27 := spD_27 (r := R) (x := X) (p := (p : Int)) (s := false) hA
  have h26 := spD_1 (A := A) (r := R) (x := X) (p := (p : Int)) (s := false)
  have h25 := spD_0 (A := mixA A p X) (r := R) (x := X) (p := (p : Int)) (s := false)
  have ll := spD_len (r := R) (x := X) (p := (p : Int)) (s := false) hA
  have ll1 := spD_len (r := R) (x := X) (p := (p : Int)) (s := false) hm1
  have ll2 := spD_len (r := R) (x := X) (p := (p : Int)) (s := false) hm2
  have ll3 := spD_len (r := R) (x := X) (p := (p : Int)) (s := false) hpl
  have ll4 := spD_len (r := R) (x := X) (p := (0 : Int)) (s := false) hpl
  have pt := spD_part (r := R) (x := X) (p := (p : Int)) (s := false) hm2
  have ov := spD_over (r := R) (x := X) (p := (p : Int)) (s := false) hm2 hpl
  have st1 := spD_set27 (r := R) (x := X) (p := (p : Int)) (s := false) hpl 0
  have st2 := spD_set28 (r := R) (x := X) (p := (0 : Int)) (s := false) hpl true
  have hlt : ¬ n < 0 := by omega
  have hgt : ¬ 1048576 < n := by omega
  have hnn : ((n.toNat : Nat) : Int) = n := by omega
  have zz : zrep [AV.i .u8 0] 0 = [] := rfl
  clear hS
  generalize perm (mixA (mixA A p X) (R - 1) 128) = PB at *
  generalize mixA (mixA A p X) (R - 1) 128 = MB at *
  generalize mixA A p X = MA at *
  simp (disch := first | assumption | omega | (simp only [List.length_cons, List.length_nil, List.length_set, List.length_append, List.length_replicate, List.length_map, List.length_range, List.length_take, List.length_drop, nums_length, bools_length, vecs_length]; first | done | omega)) [A15, hlt, hgt, h28, h27, h26, h25, hM1, hM2, wR, hP, pt, ov, st1, st2, hnn, zz]
  refine w_heads n.toNat (fun k => ⟨[(7, .i .i64 k), (6, .rs 51 0 k 1), (1, .i .i64 n), (0, .rf 0 0)], [(51, nums .u8 (outL R S k)), (0, spD (nextN R S k).1 R X (nextN R S k).2 true)]⟩) (by simp (disch := first | assumption | omega | (simp only [List.length_cons, List.length_nil, List.length_set, List.length_append, List.length_replicate, List.length_map, List.length_range, List.length_take, List.length_drop, nums_length, bools_length, vecs_length]; first | done | omega)) [hnn, nextN, hS0, outL, nums_nil]) ?_ ?_
  · intro k hk
    have wk : IntKind.i64.wrap ((k : Int) + 1) = (k : Int) + 1 := i64_in _ (by omega)
    have hkn : (k : Int).toNat = k := Int.toNat_natCast _
    have hkL : (k : Int) < n := by omega
    obtain ⟨a1, a2⟩ := nextN_ok hR0 hSl hSp k
    obtain ⟨b1, b2⟩ := outS_ok hR0 a1 a2
    have hsu := outL_succ R S k
    have hol := outL_len R S k
    have hnx : nextN R S (k + 1) = ((outS R (nextN R S k)).1, (outS R (nextN R S k)).2 + 1) := rfl
    rw [hnx, hsu]
    simp only
    clear hnx hsu hS0 hM1 hM2 hP pt ov st1 st2 ll ll1 ll2 ll3 ll4 h28 h27 h26 h25 hl25 hpl hm1 hm2
    generalize outL R S k = O0 at *
    generalize nextN R S k = Z at *
    obtain ⟨B, q⟩ := Z
    simp only at a1 a2 b1 b2 ⊢
    have hqp : q = R → outS R (B, q) = (perm B, 0) := fun h => if_pos h
    have hqn : q ≠ R → outS R (B, q) = (B, q) := fun h => if_neg h
    have hP := pfPermute B a1
    have hpl := perm_len a1
    have hl25 := lanes_25 hpl
    have g0 := spD_0 (A := B) (r := R) (x := X) (p := (q : Int)) (s := true)
    have g27 := spD_27 (r := R) (x := X) (p := (q : Int)) (s := true) a1
    have l0 := spD_len (r := R) (x := X) (p := (q : Int)) (s := true) a1
    by_cases hq : q = R
    · have e := hqp hq
      rw [e] at b1 b2 ⊢
      simp only at b1 b2 ⊢
      have hqd : decide ((q : Int) = (R : Int)) = true := decide_eq_true (by omega)
      have pt := spD_part (r := R) (x := X) (p := (q : Int)) (s := true) a1
      have ov := spD_over (r := R) (x := X) (p := (q : Int)) (s := true) a1 hpl
      have l1 := spD_len (r := R) (x := X) (p := (q : Int)) (s := true) hpl
      have l2 := spD_len (r := R) (x := X) (p := (0 : Int)) (s := true) hpl
      have s27 := spD_set27 (r := R) (x := X) (p := (q : Int)) (s := true) hpl 0
      have s27' := spD_set27 (r := R) (x := X) (p := (0 : Int)) (s := true) hpl 1
      have g27' := spD_27 (r := R) (x := X) (p := (0 : Int)) (s := true) hpl
      have gl := spD_lane (r := R) (x := X) (p := (0 : Int)) (s := true) hpl (j := 0) (by omega)
      have sh := shr_u64 (nl (perm B) 0) (n := 0) (by omega)
      have hO : outB (perm B, 0) = IntKind.u8.wrap (iv (nl (perm B) 0 >>> 0)) := by simp only [outB, Nat.zero_div, Nat.zero_mod, Nat.mul_zero]
      rw [hO]
      have z1 : IntKind.i64.wrap 0 = 0 := rfl
      have z2 : IntKind.i64.wrap 1 = 1 := rfl
      have z3 : (0 : Int).tdiv 8 = 0 := rfl
      have z4 : (0 : Int).tmod 8 = 0 := rfl
      have z5 : IntKind.u64.wrap 0 = 0 := rfl
      have e01 : ((0 + 1 : Nat) : Int) = 1 := rfl
      rw [e01]
      rw [Int.natCast_zero] at sh
      rw [show 2 + 0 = 2 from rfl] at gl
      clear hqp hqn e hO
      generalize nl (perm B) 0 >>> 0 = W at *
      generalize perm B = PB at *
      generalize hT : (k : Int) = T at *
      simp (disch := first | assumption | omega | (simp only [List.length_cons, List.length_nil, List.length_set, List.length_append, List.length_replicate, List.length_map, List.length_range, List.length_take, List.length_drop, nums_length, bools_length, vecs_length]; first | done | omega)) [hkL, hkn, hol, g27, g0, hqd, pt, hP, ov, s27, g27', gl, sh, z1, z2, z3, z4, z5, nums_snoc, s27', wk, hT, -shiftV_shl, -shiftV_shr]
    · have e := hqn hq
      rw [e] at b1 b2 ⊢
      simp only at b1 b2 ⊢
      have hqd : ¬ ((q : Int) = (R : Int)) := by omega
      have q8 : q / 8 < 25 := by omega
      have gl := spD_lane (r := R) (x := X) (p := (q : Int)) (s := true) a1 q8
      have sh := shr_u64 (nl B (q / 8)) (n := 8 * (q % 8)) (by omega)
      have hO : outB (B, q) = IntKind.u8.wrap (iv (nl B (q / 8) >>> (8 * (q % 8)))) := rfl
      rw [hO]
      have z1 : (q : Int).tdiv 8 = ((q / 8 : Nat) : Int) := rfl
      have z2 : (q : Int).tmod 8 = ((q % 8 : Nat) : Int) := rfl
      have z3 : IntKind.i64.wrap ((q / 8 : Nat) : Int) = ((q / 8 : Nat) : Int) := i64_in _ (by omega)
      have z4 : IntKind.i64.wrap (((q % 8 : Nat) : Int) * 8) = ((8 * (q % 8) : Nat) : Int) := by rw [i64_in _ (by omega)]; omega
      have z5 : ((q / 8 : Nat) : Int).toNat = q / 8 := Int.toNat_natCast _
      have z6 : 0 ≤ ((q / 8 : Nat) : Int) ∧ ((q / 8 : Nat) : Int) < 25 := by omega
      have z7 := u64_i (n := 8 * (q % 8)) (by omega)
      have wq : IntKind.i64.wrap ((q : Int) + 1) = ((q + 1 : Nat) : Int) := i64_in _ (by omega)
      have s27 := spD_set27 (r := R) (x := X) (p := (q : Int)) (s := true) a1 ((q + 1 : Nat) : Int)
      clear hqp hqn e hO hP hpl hl25 hq
      generalize nl B (q / 8) >>> (8 * (q % 8)) = W at *
      generalize ((8 * (q % 8) : Nat) : Int) = E at *
      generalize ((q % 8 : Nat) : Int) = M at *
      generalize ((q / 8 : Nat) : Int) = D at *
      generalize q / 8 = J at *
      generalize ((q + 1 : Nat) : Int) = Q1 at *
      generalize hT : (k : Int) = T at *
      simp (disch := first | assumption | omega | (simp only [List.length_cons, List.length_nil, List.length_set, List.length_append, List.length_replicate, List.length_map, List.length_range, List.length_take, List.length_drop, nums_length, bools_length, vecs_length]; first | done | omega)) [hkL, hkn, hol, g27, g0, hqd, gl, sh, z1, z2, z3, z4, z5, z7, nums_snoc, s27, wq, wk, hT, -shiftV_shl, -shiftV_shr]
  · have hol := outL_len R S n.toNat
    have hnl := nums_length .u8 (outL R S n.toNat)
    have lo := fun C => lent_one3 C (spD A R X p false) (nums .u8 (outL R S n.toNat)) n
    generalize nextN R S n.toNat = S1 at *
    generalize outL R S n.toNat = F at *
    simp (disch := first | assumption | omega | (simp only [List.length_cons, List.length_nil, List.length_set, List.length_append, List.length_replicate, List.length_map, List.length_range, List.length_take, List.length_drop, nums_length, bools_length, vecs_length]; first | done | omega)) [hol, hnl, hnn, lo]
end Zab.YtjnomoefbffpoaaDoorB
