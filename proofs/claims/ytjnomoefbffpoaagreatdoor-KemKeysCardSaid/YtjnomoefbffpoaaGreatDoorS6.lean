/- Parts of the proof, in order. -/
import Derived.Test.YtjnomoefbffpoaaGreatDoorS3
import Derived.Test.YtjnomoefbffpoaaGreatDoorS5
import Derived.Test.YtjnomoefbffpoaaGreatDoorS4
import Derived.KernelRfl
import Derived.Test.YtjnomoefbffpoaaGreatDoorChecked
import Derived.Test.YtjnomoefbffpoaaGreatDoorRows
import Derived.Test.YtjnomoefbffpoaaGreatDoorS2
import Derived.WalkKit
import Derived.LaidLaws
import Derived.LaidHandle
namespace Zab.YtjnomoefbffpoaaGreatDoorB
open Go
open Go.IntWalk (i64_in)
set_option maxRecDepth 100000
set_option linter.unusedSimpArgs false
set_option linter.unusedVariables false
attribute [-simp] getElem?_pos
theorem pBit {x : AV} {L : List Int} (hx : IsL .u8 x L) (hI : ∀ y ∈ L, inK .u8 y) {a : Nat} (ha : a / 8 < L.length) (ha2 : a < 1000000) : FF tab 111 [.i .i64 a, .op [x]] = some ⟨.i .i64 (bitZ (val L) a), [[x]]⟩ := by
  refine call_by (A := A111) rfl rfl ?_
  have fx := hx.flat
  have hB := bytes_in hI
  have hb := val_bit hB ha
  have td : (a : Int).tdiv 8 = ((a / 8 : Nat) : Int) := by rw [Int.tdiv_eq_ediv_of_nonneg (by omega)]; omega
  have tm : (a : Int).tmod 8 = ((a % 8 : Nat) : Int) := by rw [Int.tmod_eq_emod_of_nonneg (by omega)]; omega
  have wq : IntKind.i64.wrap ((a / 8 : Nat) : Int) = ((a / 8 : Nat) : Int) := i64_in _ (by omega)
  have ix := ixSV_isL hx (k' := .i64) (j := ((a / 8 : Nat) : Int)) (by omega) (by omega)
  rw [Int.toNat_natCast] at ix
  have gx := nums_get (k := .u8) (L := L) (j := a / 8) ha
  obtain ⟨y0, y1⟩ : 0 ≤ ni L (a / 8) ∧ ni L (a / 8) < 256 := hB _ (by unfold ni; rw [List.getD_eq_getElem?_getD, List.getElem?_eq_getElem ha]; exact List.getElem_mem ha)
  have ey : ni L (a / 8) = ((ni L (a / 8)).toNat : Int) := by omega
  rw [ey] at gx
  have h8 : a % 8 < 8 := Nat.mod_lt _ (by omega)
  have sr := u8_shr (a := (ni L (a / 8)).toNat) (d := a % 8) (by omega)
  have hy : (ni L (a / 8)).toNat / 2 ^ (a % 8) ≤ (ni L (a / 8)).toNat := Nat.div_le_self _ _
  have an := u8_one (a := (ni L (a / 8)).toNat / 2 ^ (a % 8)) (by omega)
  rw [hb, show ((val L / 2 ^ a % 2 : Nat) : Int) = bitZ (val L) a from rfl] at an
  have bl := bitZ_in (val L) a
  have wb : IntKind.i64.wrap (bitZ (val L) a) = bitZ (val L) a := i64_in _ (by omega)
  clear hb
  generalize bitZ (val L) a = B1 at *
  generalize (((ni L (a / 8)).toNat / 2 ^ (a % 8) : Nat) : Int) = Y1 at *
  generalize (((ni L (a / 8)).toNat : Nat) : Int) = Y0 at *
  generalize ((a % 8 : Nat) : Int) = M8 at *
  generalize ((a / 8 : Nat) : Int) = Q8 at *
  generalize (a : Int) = A0 at *
  simp (disch := first | assumption | omega | (simp only [List.length_cons, List.length_nil, List.length_set, List.length_append, List.length_replicate, List.length_map, List.length_range, List.length_take, List.length_drop, nums_length, bools_length, vecs_length]; first | done | omega)) [A111, td, tm, wq, ix, gx, sr, an, wb, -shiftV_shl, -shiftV_shr]
theorem right_kem : Right 3329 := by unfold Right; omega
set_option maxHeartbeats 8000000 in
theorem pCentered {e : Nat} (he : e = 2 ∨ e = 3) {x : AV} {L : List Int} (hx : IsL .u8 x L) (hI : ∀ y ∈ L, inK .u8 y) (hl : L.length = 64 * e) :
    FF tab 75 [.i .i64 e, x] = some ⟨.tp [.os (nums .i64 ((List.range 256).map (cen (val L) e))) 256 1, .nl], []⟩ := by
  refine call_by (A := A75) rfl rfl ?_
  have fx := hx.flat
  have lx := lenV_isL hx
  have w64 : IntKind.i64.wrap (64 * (e : Int)) = (L.length : Int) := by rw [i64_in _ (by omega)]; omega
  rw [← fillTo_all]
  have tl := fillTo_len (cen (val L) e) 256
  have hc : (((e : Int) = 2) = True ∧ ((e : Int) = 2) = True) ∨ (((e : Int) = 2) = False ∧ ((e : Int) = 3) = True) := by
    rcases he with rfl | rfl
    · exact .inl ⟨eq_true rfl, eq_true rfl⟩
    · exact .inr ⟨eq_false (by decide), eq_true rfl⟩
  have e3 : e ≤ 3 := by omega
  rcases hc with ⟨k2, k3⟩ | ⟨k2, k3⟩
  all_goals
    simp (disch := first | assumption | omega | (simp only [List.length_cons, List.length_nil, List.length_set, List.length_append, List.length_replicate, List.length_map, List.length_range, List.length_take, List.length_drop, nums_length, bools_length, vecs_length]; first | done | omega)) [A75, lx, w64, k2, k3]
    refine w_heads 256 (fun i => ⟨[(30, .i .i64 i), (29, .i .i64 256), (7, .rs 27 0 256 1), (6, .fn 111 [.rf 3 0]), (0, .i .i64 e)], [(27, nums .i64 (fillTo (cen (val L) e) 256 i)), (3, [x])]⟩) (by simp (disch := first | assumption | omega | (simp only [List.length_cons, List.length_nil, List.length_set, List.length_append, List.length_replicate, List.length_map, List.length_range, List.length_take, List.length_drop, nums_length, bools_length, vecs_length]; first | done | omega)) [fillTo_zero]) ?_ ?_
    · intro i hi
      have hi2 : (i : Int) < 256 := by omega
      have ti : (i : Int).toNat = i := Int.toNat_natCast _
      have wi : IntKind.i64.wrap ((i : Int) + 1) = (i : Int) + 1 := i64_in _ (by omega)
      have t0 := tl i
      have st := fillTo_set (cen (val L) e) hi
      generalize fillTo (cen (val L) e) 256 (i + 1) = T1 at *
      generalize fillTo (cen (val L) e) 256 i = T0 at *
      simp (disch := first | assumption | omega | (simp only [List.length_cons, List.length_nil, List.length_set, List.length_append, List.length_replicate, List.length_map, List.length_range, List.length_take, List.length_drop, nums_length, bools_length, vecs_length]; first | done | omega)) [hi2]
      refine w_heads e (fun k => ⟨[(34, .i .i64 k), (33, .i .i64 e), (30, .i .i64 i), (29, .i .i64 256), (9, .i .i64 (cenS (val L) e i k)), (8, .i .i64 i), (7, .rs 27 0 256 1), (6, .fn 111 [.rf 3 0]), (0, .i .i64 e)], [(27, nums .i64 T0), (3, [x])]⟩) (by simp (disch := first | assumption | omega | (simp only [List.length_cons, List.length_nil, List.length_set, List.length_append, List.length_replicate, List.length_map, List.length_range, List.length_take, List.length_drop, nums_length, bools_length, vecs_length]; first | done | omega)) [cenS]) ?_ ?_
      · intro k hk
        have hk2 : (k : Int) < e := by omega
        have wk : IntKind.i64.wrap ((k : Int) + 1) = (k : Int) + 1 := i64_in _ (by omega)
        have hP : 2 * i * e ≤ 510 * e := Nat.mul_le_mul_right _ (by omega)
        have m1 : IntKind.i64.wrap (2 * (i : Int)) = ((2 * i : Nat) : Int) := by rw [i64_in _ (by omega)]; omega
        have m2 : IntKind.i64.wrap (((2 * i : Nat) : Int) * e) = ((2 * i * e : Nat) : Int) := by rw [show ((2 * i : Nat) : Int) * e = ((2 * i * e : Nat) : Int) by simp]; exact i64_in _ (by omega)
        have m3 : IntKind.i64.wrap (((2 * i * e : Nat) : Int) + k) = ((2 * i * e + k : Nat) : Int) := by rw [show ((2 * i * e : Nat) : Int) + k = ((2 * i * e + k : Nat) : Int) by omega]; exact i64_in _ (by omega)
        have m4 : IntKind.i64.wrap (((2 * i * e : Nat) : Int) + e) = ((2 * i * e + e : Nat) : Int) := by rw [show ((2 * i * e : Nat) : Int) + e = ((2 * i * e + e : Nat) : Int) by omega]; exact i64_in _ (by omega)
        have m5 : IntKind.i64.wrap (((2 * i * e + e : Nat) : Int) + k) = ((2 * i * e + e + k : Nat) : Int) := by rw [show ((2 * i * e + e : Nat) : Int) + k = ((2 * i * e + e + k : Nat) : Int) by omega]; exact i64_in _ (by omega)
        have b1 := pBit hx hI (a := 2 * i * e + k) (by omega) (by omega)
        have b2 := pBit hx hI (a := 2 * i * e + e + k) (by omega) (by omega)
        have cS := cenS_in (val L) e i k
        have r1 := bitZ_in (val L) (2 * i * e + k)
        have r2 := bitZ_in (val L) (2 * i * e + e + k)
        have es : cenS (val L) e i (k + 1) = cenS (val L) e i k + (bitZ (val L) (2 * i * e + k) - bitZ (val L) (2 * i * e + e + k)) := rfl
        have w1 : IntKind.i64.wrap (bitZ (val L) (2 * i * e + k) - bitZ (val L) (2 * i * e + e + k)) = bitZ (val L) (2 * i * e + k) - bitZ (val L) (2 * i * e + e + k) := i64_in _ (by omega)
        have w2 : IntKind.i64.wrap (cenS (val L) e i k + (bitZ (val L) (2 * i * e + k) - bitZ (val L) (2 * i * e + e + k))) = cenS (val L) e i (k + 1) := by rw [es]; exact i64_in _ (by omega)
        clear es
        generalize cenS (val L) e i (k + 1) = S1 at *
        generalize cenS (val L) e i k = S0 at *
        generalize bitZ (val L) (2 * i * e + k) = B1 at *
        generalize bitZ (val L) (2 * i * e + e + k) = B2 at *
        generalize ((2 * i * e + e + k : Nat) : Int) = P5 at *
        generalize ((2 * i * e + k : Nat) : Int) = P4 at *
        generalize ((2 * i * e + e : Nat) : Int) = P3 at *
        generalize ((2 * i * e : Nat) : Int) = P2 at *
        generalize ((2 * i : Nat) : Int) = P1 at *
        simp (disch := first | assumption | omega | (simp only [List.length_cons, List.length_nil, List.length_set, List.length_append, List.length_replicate, List.length_map, List.length_range, List.length_take, List.length_drop, nums_length, bools_length, vecs_length]; first | done | omega)) [hk2, wk, m1, m2, m3, m4, m5, b1, b2, w1, w2]
      · have hM := Mod (cenS (val L) e i e) right_kem
        rw [show cenS (val L) e i e % 3329 = cen (val L) e i from rfl] at hM
        generalize cen (val L) e i = C at *
        generalize cenS (val L) e i e = S0 at *
        simp (disch := first | assumption | omega | (simp only [List.length_cons, List.length_nil, List.length_set, List.length_append, List.length_replicate, List.length_map, List.length_range, List.length_take, List.length_drop, nums_length, bools_length, vecs_length]; first | done | omega)) [hM, wi, ti, t0, st, hi2]
    · have t0 := tl 256
      generalize fillTo (cen (val L) e) 256 256 = T at *
      simp (disch := first | assumption | omega | (simp only [List.length_cons, List.length_nil, List.length_set, List.length_append, List.length_replicate, List.length_map, List.length_range, List.length_take, List.length_drop, nums_length, bools_length, vecs_length]; first | done | omega)) [t0]
set_option maxHeartbeats 8000000 in
theorem dCentered {e : Nat} (he : e = 2 ∨ e = 3) {x : AV} {L : List Int} (hx : IsL .u8 x L) (hI : ∀ y ∈ L, inK .u8 y) (hl : L.length = 64 * e) :
    FF tab 84 [.i .i64 e, x] = some ⟨.os (nums .i64 ((List.range 256).map (cen (val L) e))) 256 1, []⟩ := by
  refine call_by (A := A84) rfl rfl ?_
  have fx := hx.flat
  have e3 : e ≤ 3 := by omega
  simp (disch := first | assumption | omega | (simp only [List.length_cons, List.length_nil, List.length_set, List.length_append, List.length_replicate, List.length_map, List.length_range, List.length_take, List.length_drop, nums_length, bools_length, vecs_length]; first | done | omega)) [A84]
  refine w_heads 256 (fun i => ⟨[(6, .i .i64 i), (5, .rs 5 0 ((List.range i).map (cen (val L) e)).length 1), (1, x), (0, .i .i64 e)], [(5, nums .i64 ((List.range i).map (cen (val L) e)))]⟩) (by simp (disch := first | assumption | omega | (simp only [List.length_cons, List.length_nil, List.length_set, List.length_append, List.length_replicate, List.length_map, List.length_range, List.length_take, List.length_drop, nums_length, bools_length, vecs_length]; first | done | omega)) [nums_nil]) ?_ ?_
  · intro i hi
    have hi2 : (i : Int) < 256 := by omega
    have wi : IntKind.i64.wrap ((i : Int) + 1) = (i : Int) + 1 := i64_in _ (by omega)
    rw [mapTo_succ]
    have ll : ((List.range i).map (cen (val L) e)).length = i := by simp
    have hb1 : ((((List.range i).map (cen (val L) e)).length : Int) + 1) * 8 ≤ 140737488355328 := by omega
    generalize (List.range i).map (cen (val L) e) = O at *
    simp (disch := first | assumption | omega | (simp only [List.length_cons, List.length_nil, List.length_set, List.length_append, List.length_replicate, List.length_map, List.length_range, List.length_take, List.length_drop, nums_length, bools_length, vecs_length]; first | done | omega)) [hi2]
    refine w_heads e (fun k => ⟨[(8, .i .i64 k), (7, .i .i64 (cenS (val L) e i k)), (6, .i .i64 i), (5, .rs 5 0 O.length 1), (1, x), (0, .i .i64 e)], [(5, nums .i64 O)]⟩) (by simp (disch := first | assumption | omega | (simp only [List.length_cons, List.length_nil, List.length_set, List.length_append, List.length_replicate, List.length_map, List.length_range, List.length_take, List.length_drop, nums_length, bools_length, vecs_length]; first | done | omega)) [cenS]) ?_ ?_
    · intro k hk
      have hk2 : (k : Int) < e := by omega
      have wk : IntKind.i64.wrap ((k : Int) + 1) = (k : Int) + 1 := i64_in _ (by omega)
      have hP : 2 * i * e ≤ 510 * e := Nat.mul_le_mul_right _ (by omega)
      have m1 : IntKind.i64.wrap (2 * (i : Int)) = ((2 * i : Nat) : Int) := by rw [i64_in _ (by omega)]; omega
      have m2 : IntKind.i64.wrap (((2 * i : Nat) : Int) * e) = ((2 * i * e : Nat) : Int) := by rw [show ((2 * i : Nat) : Int) * e = ((2 * i * e : Nat) : Int) by simp]; exact i64_in _ (by omega)
      have m3 : IntKind.i64.wrap (((2 * i * e : Nat) : Int) + k) = ((2 * i * e + k : Nat) : Int) := by rw [show ((2 * i * e : Nat) : Int) + k = ((2 * i * e + k : Nat) : Int) by omega]; exact i64_in _ (by omega)
      have m4 : IntKind.i64.wrap (((2 * i * e : Nat) : Int) + e) = ((2 * i * e + e : Nat) : Int) := by rw [show ((2 * i * e : Nat) : Int) + e = ((2 * i * e + e : Nat) : Int) by omega]; exact i64_in _ (by omega)
      have m5 : IntKind.i64.wrap (((2 * i * e + e : Nat) : Int) + k) = ((2 * i * e + e + k : Nat) : Int) := by rw [show ((2 * i * e + e : Nat) : Int) + k = ((2 * i * e + e + k : Nat) : Int) by omega]; exact i64_in _ (by omega)
      have b1 := dBit hx hI (a := 2 * i * e + k) (by omega) (by omega)
      have b2 := dBit hx hI (a := 2 * i * e + e + k) (by omega) (by omega)
      rw [show ((val L / 2 ^ (2 * i * e + k) % 2 : Nat) : Int) = bitZ (val L) (2 * i * e + k) from rfl] at b1
      rw [show ((val L / 2 ^ (2 * i * e + e + k) % 2 : Nat) : Int) = bitZ (val L) (2 * i * e + e + k) from rfl] at b2
      have cS := cenS_in (val L) e i k
      have r1 := bitZ_in (val L) (2 * i * e + k)
      have r2 := bitZ_in (val L) (2 * i * e + e + k)
      have es : cenS (val L) e i (k + 1) = cenS (val L) e i k + (bitZ (val L) (2 * i * e + k) - bitZ (val L) (2 * i * e + e + k)) := rfl
      have w1 : IntKind.i64.wrap (cenS (val L) e i k + bitZ (val L) (2 * i * e + k)) = cenS (val L) e i k + bitZ (val L) (2 * i * e + k) := i64_in _ (by omega)
      have w2 : IntKind.i64.wrap (cenS (val L) e i k + bitZ (val L) (2 * i * e + k) - bitZ (val L) (2 * i * e + e + k)) = cenS (val L) e i (k + 1) := by rw [es, i64_in _ (by omega)]; omega
      clear es
      generalize cenS (val L) e i (k + 1) = S1 at *
      generalize cenS (val L) e i k = S0 at *
      generalize bitZ (val L) (2 * i * e + k) = B1 at *
      generalize bitZ (val L) (2 * i * e + e + k) = B2 at *
      generalize ((2 * i * e + e + k : Nat) : Int) = P5 at *
      generalize ((2 * i * e + k : Nat) : Int) = P4 at *
      generalize ((2 * i * e + e : Nat) : Int) = P3 at *
      generalize ((2 * i * e : Nat) : Int) = P2 at *
      generalize ((2 * i : Nat) : Int) = P1 at *
      simp (disch := first | assumption | omega | (simp only [List.length_cons, List.length_nil, List.length_set, List.length_append, List.length_replicate, List.length_map, List.length_range, List.length_take, List.length_drop, nums_length, bools_length, vecs_length]; first | done | omega)) [hk2, wk, m1, m2, m3, m4, m5, b1, b2, w1, w2]
    · have cS := cenS_in (val L) e i e
      have ec : cen (val L) e i = cenS (val L) e i e % 3329 := rfl
      have w1 : IntKind.i64.wrap (cenS (val L) e i e + 3329) = cenS (val L) e i e + 3329 := i64_in _ (by omega)
      have tm : (cenS (val L) e i e + 3329).tmod 3329 = cen (val L) e i := by rw [Int.tmod_eq_emod_of_nonneg (by omega), ec]; omega
      clear ec
      generalize cen (val L) e i = C at *
      generalize cenS (val L) e i e = S0 at *
      simp (disch := first | assumption | omega | (simp only [List.length_cons, List.length_nil, List.length_set, List.length_append, List.length_replicate, List.length_map, List.length_range, List.length_take, List.length_drop, nums_length, bools_length, vecs_length]; first | done | omega)) [w1, tm, wi]
  · have ll : ((List.range 256).map (cen (val L) e)).length = 256 := by simp
    generalize (List.range 256).map (cen (val L) e) = O at *
    simp (disch := first | assumption | omega | (simp only [List.length_cons, List.length_nil, List.length_set, List.length_append, List.length_replicate, List.length_map, List.length_range, List.length_take, List.length_drop, nums_length, bools_length, vecs_length]; first | done | omega)) [ll]
theorem range_is9 : FF tab 15 [.er 1, .i .i64 101] = some ⟨.b true, []⟩ := SeeIs (c := 101) (by simp [Code]) 101
theorem length_is9 : FF tab 15 [.er 2, .i .i64 102] = some ⟨.b true, []⟩ := SeeIs (c := 102) (by simp [Code]) 102
end Zab.YtjnomoefbffpoaaGreatDoorB
namespace Zab.YtjnomoefbffpoaaGreatDoorB
open Go
open Go.IntWalk (i64_in)
set_option maxRecDepth 100000
set_option linter.unusedSimpArgs false
set_option linter.unusedVariables false
attribute [-simp] getElem?_pos
theorem inB_ni {d : Nat} {L : List Int} (h : ∀ y ∈ L, InB d y) {i : Nat} (hi : i < L.length) : InB d (ni L i) := by
  have : ni L i = L[i] := ni_get hi
  rw [this]; exact h _ (List.getElem_mem hi)
set_option maxHeartbeats 8000000 in
theorem pBits {d : Nat} (d1 : 1 ≤ d) (d24 : d ≤ 24) {x : AV} {L : List Int} (hx : IsL .i64 x L) (hs : L.length ≤ 100000) (h8 : d * L.length % 8 = 0) (hL : ∀ y ∈ L, InB d y) :
    FF tab 77 [.i .i64 d, x] = some ⟨.tp [.os (nums .u8 (bytL (num d L) (d * L.length / 8))) (d * L.length / 8) 1, .nl], []⟩ := by
  refine call_by (A := A77) rfl rfl ?_
  have fx := hx.flat
  have lx := lenV_isL hx
  have hdl : d * L.length ≤ 24 * 100000 := Nat.mul_le_mul d24 hs
  have hdm : d * (L.length % 8) ≤ 24 * 8 := Nat.mul_le_mul d24 (by omega)
  have hm8 : d * (L.length % 8) % 8 = 0 := by rw [Nat.mul_mod, Nat.mod_mod, ← Nat.mul_mod]; exact h8
  have hM2 : L.length / 8 * d ≤ 100000 * 24 := Nat.mul_le_mul (by omega) d24
  have e1 : (L.length : Int).tmod 8 = ((L.length % 8 : Nat) : Int) := by rw [Int.tmod_eq_emod_of_nonneg (by omega)]; omega
  have e2 : IntKind.i64.wrap ((d : Int) * ((L.length % 8 : Nat) : Int)) = ((d * (L.length % 8) : Nat) : Int) := by
    rw [show (d : Int) * ((L.length % 8 : Nat) : Int) = ((d * (L.length % 8) : Nat) : Int) by rw [Int.natCast_mul]]; exact i64_in _ (by omega)
  have e3 : ((d * (L.length % 8) : Nat) : Int).tmod 8 = 0 := by rw [Int.tmod_eq_emod_of_nonneg (by omega)]; omega
  have e4 : (L.length : Int).tdiv 8 = ((L.length / 8 : Nat) : Int) := by rw [Int.tdiv_eq_ediv_of_nonneg (by omega)]; omega
  have e5 : IntKind.i64.wrap ((L.length / 8 : Nat) : Int) = ((L.length / 8 : Nat) : Int) := i64_in _ (by omega)
  have e6 : IntKind.i64.wrap (((L.length / 8 : Nat) : Int) * d) = ((L.length / 8 * d : Nat) : Int) := by
    rw [show ((L.length / 8 : Nat) : Int) * d = ((L.length / 8 * d : Nat) : Int) by rw [Int.natCast_mul]]; exact i64_in _ (by omega)
  have e7 : IntKind.i64.wrap (((L.length / 8 * d : Nat) : Int) + d) = ((L.length / 8 * d + d : Nat) : Int) := by
    rw [show ((L.length / 8 * d : Nat) : Int) + d = ((L.length / 8 * d + d : Nat) : Int) by omega]; exact i64_in _ (by omega)
  obtain ⟨M, hM⟩ : ∃ M : Nat, M = L.length / 8 * d + d := ⟨_, rfl⟩
  rw [← hM] at e7
  have k1 : (0 : Int) ≤ (M : Int) := by omega
  have k2 : (M : Int) * 1 ≤ 140737488355328 := by omega
  have k3 : (M : Int).toNat = M := Int.toNat_natCast _
  have k4 : (M : Int) ≤ 140737488355328 := by omega
  have c1 : ¬ (d : Int) < 1 := by omega
  have c2 : ¬ (24 : Int) < d := by omega
  clear hM
  generalize ((L.length / 8 * d : Nat) : Int) = E1 at *
  generalize ((d * (L.length % 8) : Nat) : Int) = E2 at *
  generalize ((L.length / 8 : Nat) : Int) = E3 at *
  generalize ((L.length % 8 : Nat) : Int) = E4 at *
  simp (disch := first | assumption | omega | (simp only [List.length_cons, List.length_nil, List.length_set, List.length_append, List.length_replicate, List.length_map, List.length_range, List.length_take, List.length_drop, nums_length, bools_length, vecs_length]; first | done | omega)) [A77, lx, e1, e2, e3, e4, e5, e6, e7, k1, k2, k3, k4, c1, c2]
  refine w_heads L.length (fun i => ⟨[(38, .i .i64 i), (37, .i .i64 L.length), (36, x), (8, .i .i64 ((d * i - 8 * (d * i / 8) : Nat) : Int)), (7, .i .u64 ((rs2 8 (num d L) (d * i) (d * i / 8) : Nat) : Int)), (6, .rs 35 0 (bytL (num d L) (d * i / 8)).length 1), (0, .i .i64 d)], [(35, nums .u8 (bytL (num d L) (d * i / 8)))]⟩) (by simp (disch := first | assumption | omega | (simp only [List.length_cons, List.length_nil, List.length_set, List.length_append, List.length_replicate, List.length_map, List.length_range, List.length_take, List.length_drop, nums_length, bools_length, vecs_length]; first | done | omega)) [bytL, rs2, Nat.zero_div, Nat.mod_one, nums_nil]) ?_ ?_
  · intro i hi
    have hms : d * (i + 1) = d * i + d := Nat.mul_succ _ _
    have hil : d * (i + 1) ≤ d * L.length := Nat.mul_le_mul_left d hi
    have hc : 8 * (d * i / 8) ≤ d * i := by omega
    have hcc : d * i / 8 ≤ d * (i + 1) / 8 := Nat.div_le_div_right (by omega)
    have hr := rs2_add (e := 8) (W := num d L) (t := d * i) (c := d * i / 8) (k := d) hc
    rw [← num_at hL hi, ← hms] at hr
    have lt1 := rs2_lt (e := 8) (W := num d L) hc
    have lt2 := rs2_lt (e := 8) (W := num d L) (t := d * (i + 1)) (c := d * i / 8) (by omega)
    have hh : d * (i + 1) - 8 * (d * i / 8) ≤ 32 := by omega
    have hp := pow_le hh
    have hp3 := pow_le d24
    obtain ⟨y0, y1⟩ := inB_ni hL hi
    have ix := ixSV_isL hx (k' := .i64) (j := (i : Int)) (by omega) (by omega)
    rw [Int.toNat_natCast] at ix
    have gx := nums_get (k := .i64) (L := L) (j := i) hi
    have ey : ni L i = ((ni L i).toNat : Int) := by omega
    have wy : IntKind.u64.wrap (ni L i) = ((ni L i).toNat : Int) := by rw [ey]; simp only [Int.toNat_natCast]; exact u64_nat (by omega)
    have hle : (ni L i).toNat * 2 ^ (d * i - 8 * (d * i / 8)) ≤ rs2 8 (num d L) (d * (i + 1)) (d * i / 8) := by rw [hr]; omega
    have sh := u64_shl (a := (ni L i).toNat) (d := d * i - 8 * (d * i / 8)) (by omega) (by omega)
    have or := u64_or (i := d * i - 8 * (d * i / 8)) (b := (ni L i).toNat) lt1 hr (by omega)
    have w8 : IntKind.i64.wrap (((d * i - 8 * (d * i / 8) : Nat) : Int) + d) = ((d * (i + 1) - 8 * (d * i / 8) : Nat) : Int) := by
      rw [show ((d * i - 8 * (d * i / 8) : Nat) : Int) + d = ((d * (i + 1) - 8 * (d * i / 8) : Nat) : Int) by omega]; exact i64_in _ (by omega)
    have hlt : (i : Int) < L.length := by omega
    have wi : IntKind.i64.wrap ((i : Int) + 1) = (i : Int) + 1 := i64_in _ (by omega)
    have s1 := shl_one (d := d) (by omega)
    have n0 : ¬ ni L i < 0 := by omega
    have n1 : ¬ ((2 ^ d : Nat) : Int) ≤ ni L i := by omega
    have hend : d * (i + 1) - 8 * (d * (i + 1) / 8) < 8 := by omega
    have hstep : ∀ j, j < d * (i + 1) / 8 - d * i / 8 → 8 * (d * i / 8 + j + 1) ≤ d * (i + 1) := by
      intro j hj
      omega
    have hcl : d * (i + 1) / 8 ≤ 300000 := by omega
    clear hr hle ey hms
    generalize hc0 : d * i / 8 = c at *
    generalize hce : d * (i + 1) / 8 = ce at *
    generalize ((ni L i).toNat * 2 ^ (d * i - 8 * c) : Nat) = Y1 at *
    generalize (((ni L i).toNat : Nat) : Int) = Y at *
    generalize ni L i = y at *
    generalize ((2 ^ d : Nat) : Int) = P2 at *
    generalize hR0 : ((rs2 8 (num d L) (d * i) c : Nat) : Int) = R0 at *
    generalize hH0 : ((d * i - 8 * c : Nat) : Int) = H0 at *
    generalize hO0 : bytL (num d L) c = O0 at *
    simp (disch := first | assumption | omega | (simp only [List.length_cons, List.length_nil, List.length_set, List.length_append, List.length_replicate, List.length_map, List.length_range, List.length_take, List.length_drop, nums_length, bools_length, vecs_length]; first | done | omega)) [hlt, ix, gx, wy, sh, or, w8, s1, n0, n1, -shiftV_shl, -shiftV_shr]
    subst hO0
    refine w_heads (ce - c) (fun j => ⟨[(38, .i .i64 i), (37, .i .i64 L.length), (36, x), (8, .i .i64 ((d * (i + 1) - 8 * (c + j) : Nat) : Int)), (7, .i .u64 ((rs2 8 (num d L) (d * (i + 1)) (c + j) : Nat) : Int)), (6, .rs 35 0 (bytL (num d L) (c + j)).length 1), (0, .i .i64 d)], [(35, nums .u8 (bytL (num d L) (c + j)))]⟩) (by simp (disch := first | assumption | omega | (simp only [List.length_cons, List.length_nil, List.length_set, List.length_append, List.length_replicate, List.length_map, List.length_range, List.length_take, List.length_drop, nums_length, bools_length, vecs_length]; first | done | omega)) []) ?_ ?_
    · intro j hj
      have hs2 := hstep j hj
      have o1 := rs2_out (e := 8) (W := num d L) (t := d * (i + 1)) (c := c + j) hs2
      have o2 := rs2_next 8 (num d L) (d * (i + 1)) (c + j)
      have lt := rs2_lt (e := 8) (W := num d L) (t := d * (i + 1)) (c := c + j) (by omega)
      have hp2 := pow_le (show d * (i + 1) - 8 * (c + j) ≤ 32 by omega)
      have a2 := shr_at (k := .u64) (a := rs2 8 (num d L) (d * (i + 1)) (c + j)) (d := 8) (by show 8 ≤ 64; omega)
      rw [o2, show ((8 : Nat) : Int) = 8 from rfl] at a2
      have wo : IntKind.u8.wrap ((rs2 8 (num d L) (d * (i + 1)) (c + j) : Nat) : Int) = ((byt (num d L) (c + j) : Nat) : Int) := by
        have e : byt (num d L) (c + j) = rs2 8 (num d L) (d * (i + 1)) (c + j) % 256 := by rw [show (256 : Nat) = 2 ^ 8 from rfl, o1]; rfl
        rw [e]
        show _ % (256 : Int) = _
        omega
      have hge : (8 : Int) ≤ ((d * (i + 1) - 8 * (c + j) : Nat) : Int) := by omega
      have wH : IntKind.i64.wrap (((d * (i + 1) - 8 * (c + j) : Nat) : Int) - 8) = ((d * (i + 1) - 8 * (c + j + 1) : Nat) : Int) := by
        rw [show ((d * (i + 1) - 8 * (c + j) : Nat) : Int) - 8 = ((d * (i + 1) - 8 * (c + j + 1) : Nat) : Int) by omega]; exact i64_in _ (by omega)
      have hol := bytL_len (num d L) (c + j)
      rw [show c + (j + 1) = c + j + 1 from rfl, bytL_succ]
      have hb1 : (((bytL (num d L) (c + j)).length : Int) + 1) * 1 ≤ 140737488355328 := by omega
      generalize ((rs2 8 (num d L) (d * (i + 1)) (c + j) : Nat) : Int) = R1 at *
      generalize ((rs2 8 (num d L) (d * (i + 1)) (c + j + 1) : Nat) : Int) = R2 at *
      generalize ((d * (i + 1) - 8 * (c + j) : Nat) : Int) = H1 at *
      generalize ((d * (i + 1) - 8 * (c + j + 1) : Nat) : Int) = H2 at *
      generalize ((byt (num d L) (c + j) : Nat) : Int) = b at *
      generalize bytL (num d L) (c + j) = O at *
      simp (disch := first | assumption | omega | (simp only [List.length_cons, List.length_nil, List.length_set, List.length_append, List.length_replicate, List.length_map, List.length_range, List.length_take, List.length_drop, nums_length, bools_length, vecs_length]; first | done | omega)) [hge, a2, wo, wH, -shiftV_shl, -shiftV_shr]
    · have hcc2 : c + (ce - c) = ce := by omega
      rw [hcc2]
      have hng : ¬ (8 : Int) ≤ ((d * (i + 1) - 8 * ce : Nat) : Int) := by omega
      generalize ((rs2 8 (num d L) (d * (i + 1)) ce : Nat) : Int) = R2 at *
      generalize ((d * (i + 1) - 8 * ce : Nat) : Int) = H2 at *
      generalize bytL (num d L) ce = O at *
      simp (disch := first | assumption | omega | (simp only [List.length_cons, List.length_nil, List.length_set, List.length_append, List.length_replicate, List.length_map, List.length_range, List.length_take, List.length_drop, nums_length, bools_length, vecs_length]; first | done | omega)) [hng, wi]
  · have hol := bytL_len (num d L) (d * L.length / 8)
    generalize ((rs2 8 (num d L) (d * L.length) (d * L.length / 8) : Nat) : Int) = R2 at *
    generalize ((d * L.length - 8 * (d * L.length / 8) : Nat) : Int) = H2 at *
    generalize bytL (num d L) (d * L.length / 8) = O at *
    simp (disch := first | assumption | omega | (simp only [List.length_cons, List.length_nil, List.length_set, List.length_append, List.length_replicate, List.length_map, List.length_range, List.length_take, List.length_drop, nums_length, bools_length, vecs_length]; first | done | omega)) [hol]
set_option maxHeartbeats 8000000 in
theorem dBits {d : Nat} (d1 : 1 ≤ d) (d24 : d ≤ 24) {x : AV} {L : List Int} (hx : IsL .i64 x L) (hs : L.length ≤ 100000) (h8 : d * L.length % 8 = 0) (hL : ∀ y ∈ L, InB d y) :
    FF tab 86 [.i .i64 d, x] = some ⟨.tp [.os (nums .u8 (bytL (num d L) (d * L.length / 8))) (d * L.length / 8) 1, .i .i64 0], []⟩ := by
  refine call_by (A := A86) rfl rfl ?_
  have fx := hx.flat
  have lx := lenV_isL hx
  have hdl : d * L.length ≤ 24 * 100000 := Nat.mul_le_mul d24 hs
  have hp3 := pow_le d24
  have e1 : IntKind.i64.wrap ((L.length : Int) * d) = ((d * L.length : Nat) : Int) := by
    rw [show (L.length : Int) * d = ((d * L.length : Nat) : Int) by rw [Int.natCast_mul, Int.mul_comm]]; exact i64_in _ (by omega)
  have e2 : ((d * L.length : Nat) : Int).tmod 8 = 0 := by rw [Int.tmod_eq_emod_of_nonneg (by omega)]; omega
  have e3 : ((d * L.length : Nat) : Int).tdiv 8 = ((d * L.length / 8 : Nat) : Int) := by rw [Int.tdiv_eq_ediv_of_nonneg (by omega)]; omega
  have e4 : IntKind.i64.wrap ((d * L.length / 8 : Nat) : Int) = ((d * L.length / 8 : Nat) : Int) := i64_in _ (by omega)
  obtain ⟨M, hM⟩ : ∃ M : Nat, M = d * L.length / 8 := ⟨_, rfl⟩
  rw [← hM] at e3 e4 ⊢
  have hM8 : d * L.length = 8 * M := by omega
  have k1 : (0 : Int) ≤ (M : Int) := by omega
  have k2 : (M : Int) * 1 ≤ 140737488355328 := by omega
  have k3 : (M : Int).toNat = M := Int.toNat_natCast _
  have k4 : (M : Int) ≤ 140737488355328 := by omega
  have c1 : ¬ (d : Int) < 1 := by omega
  have c2 : ¬ (24 : Int) < d := by omega
  clear hM
  generalize ((d * L.length : Nat) : Int) = E1 at *
  simp (disch := first | assumption | omega | (simp only [List.length_cons, List.length_nil, List.length_set, List.length_append, List.length_replicate, List.length_map, List.length_range, List.length_take, List.length_drop, nums_length, bools_length, vecs_length]; first | done | omega)) [A86, lx, e1, e2, e3, e4, k1, k2, k3, k4, c1, c2]
  refine w_heads L.length (fun i => ⟨[(7, .i .i64 i), (6, .rs 27 0 M 1), (1, x), (0, .i .i64 d)], [(27, nums .u8 (bytL (num d L % 2 ^ (d * i)) M))]⟩) (by simp (disch := first | assumption | omega | (simp only [List.length_cons, List.length_nil, List.length_set, List.length_append, List.length_replicate, List.length_map, List.length_range, List.length_take, List.length_drop, nums_length, bools_length, vecs_length]; first | done | omega)) [Nat.mod_one, bytL_zero, nums_zrep]) ?_ ?_
  · intro i hi
    have hms : d * (i + 1) = d * i + d := Nat.mul_succ _ _
    have hil : d * (i + 1) ≤ d * L.length := Nat.mul_le_mul_left d hi
    obtain ⟨y0, y1⟩ := inB_ni hL hi
    have ix := ixSV_isL hx (k' := .i64) (j := (i : Int)) (by omega) (by omega)
    rw [Int.toNat_natCast] at ix
    have gx := nums_get (k := .i64) (L := L) (j := i) hi
    have hlt : (i : Int) < L.length := by omega
    have wi : IntKind.i64.wrap ((i : Int) + 1) = (i : Int) + 1 := i64_in _ (by omega)
    have wu : IntKind.u64.wrap (d : Int) = (d : Int) := u64_nat (by omega)
    have s1 := shl_one (d := d) (by omega)
    have n0 : ¬ ni L i < 0 := by omega
    have n1 : ¬ ((2 ^ d : Nat) : Int) ≤ ni L i := by omega
    have m1 : IntKind.i64.wrap ((i : Int) * d) = ((d * i : Nat) : Int) := by
      rw [show (i : Int) * d = ((d * i : Nat) : Int) by rw [Int.natCast_mul, Int.mul_comm]]; exact i64_in _ (by omega)
    have ey : ni L i = ((ni L i).toNat : Int) := by omega
    have hy24 : (ni L i).toNat < 2 ^ 24 := by omega
    have hnb := fun k (hk : k < d) => num_bit hL hi hk
    have hrow : ∀ t, (bytL (num d L % 2 ^ t) M).length = M := fun t => bytL_len _ _
    generalize ((2 ^ d : Nat) : Int) = P2 at *
    simp (disch := first | assumption | omega | (simp only [List.length_cons, List.length_nil, List.length_set, List.length_append, List.length_replicate, List.length_map, List.length_range, List.length_take, List.length_drop, nums_length, bools_length, vecs_length]; first | done | omega)) [hlt, lx, ix, gx, wu, s1, n0, n1, -shiftV_shl, -shiftV_shr]
    refine w_heads d (fun k => ⟨[(8, .i .i64 k), (7, .i .i64 i), (6, .rs 27 0 M 1), (1, x), (0, .i .i64 d)], [(27, nums .u8 (bytL (num d L % 2 ^ (d * i + k)) M))]⟩) (by simp (disch := first | assumption | omega | (simp only [List.length_cons, List.length_nil, List.length_set, List.length_append, List.length_replicate, List.length_map, List.length_range, List.length_take, List.length_drop, nums_length, bools_length, vecs_length]; first | done | omega)) []) ?_ ?_
    · intro k hk
      have hk2 : (k : Int) < d := by omega
      have wk : IntKind.i64.wrap ((k : Int) + 1) = (k : Int) + 1 := i64_in _ (by omega)
      have wku : IntKind.u64.wrap (k : Int) = (k : Int) := u64_nat (by omega)
      have ht : (d * i + k) / 8 < M := by omega
      have m2 : IntKind.i64.wrap (((d * i : Nat) : Int) + k) = ((d * i + k : Nat) : Int) := by
        rw [show ((d * i : Nat) : Int) + k = ((d * i + k : Nat) : Int) by omega]; exact i64_in _ (by omega)
      have td : ((d * i + k : Nat) : Int).tdiv 8 = (((d * i + k) / 8 : Nat) : Int) := by rw [Int.tdiv_eq_ediv_of_nonneg (by omega)]; omega
      have tm : ((d * i + k : Nat) : Int).tmod 8 = (((d * i + k) % 8 : Nat) : Int) := by rw [Int.tmod_eq_emod_of_nonneg (by omega)]; omega
      have wq : IntKind.i64.wrap (((d * i + k) / 8 : Nat) : Int) = (((d * i + k) / 8 : Nat) : Int) := i64_in _ (by omega)
      have wm : IntKind.u64.wrap (((d * i + k) % 8 : Nat) : Int) = (((d * i + k) % 8 : Nat) : Int) := u64_nat (by omega)
      have hlt8 : (d * i + k) % 8 < 8 := Nat.mod_lt _ (by omega)
      obtain ⟨b1, b2⟩ := byt_bit (num d L) (d * i + k)
      have bs := bytL_set (num d L) (d * i + k) M ht
      rw [show d * i + (k + 1) = d * i + k + 1 from rfl]
      have bl := byt_lt (num d L % 2 ^ (d * i + k + 1)) ((d * i + k) / 8)
      have hb2 : num d L / 2 ^ (d * i + k) % 2 < 2 := Nat.mod_lt _ (by omega)
      have sr := shr_by (a := (ni L i).toNat) (d := k) (by omega)
      rw [← ey] at sr
      have hyd : (ni L i).toNat / 2 ^ k ≤ (ni L i).toNat := Nat.div_le_self _ _
      have an := and_one (a := (ni L i).toNat / 2 ^ k) (by omega)
      rw [hnb k hk] at an
      have wb : IntKind.u8.wrap ((num d L / 2 ^ (d * i + k) % 2 : Nat) : Int) = ((num d L / 2 ^ (d * i + k) % 2 : Nat) : Int) := u8_nat (by omega)
      have sl := shl_at (k := .u8) (a := num d L / 2 ^ (d * i + k) % 2) (d := (d * i + k) % 8) (by show _ ≤ 8; omega) (u8_nat (by omega))
      have or := u8_or (b := num d L / 2 ^ (d * i + k) % 2) b2 b1 bl
      have gB := nums_get (k := .u8) (L := bytL (num d L % 2 ^ (d * i + k)) M) (j := (d * i + k) / 8) (by rw [hrow]; exact ht)
      rw [bytL_ni _ ht] at gB
      have h0 := hrow (d * i + k)
      have p0 : (0 : Int) ≤ (((d * i + k) / 8 : Nat) : Int) := by omega
      have p1 : (((d * i + k) / 8 : Nat) : Int) < M := by omega
      have p2 : (((d * i + k) / 8 : Nat) : Int).toNat = (d * i + k) / 8 := Int.toNat_natCast _
      clear b1 b2 hnb
      generalize bytL (num d L % 2 ^ (d * i + k + 1)) M = T1 at *
      generalize bytL (num d L % 2 ^ (d * i + k)) M = T0 at *
      generalize ((byt (num d L % 2 ^ (d * i + k + 1)) ((d * i + k) / 8) : Nat) : Int) = V1 at *
      generalize ((byt (num d L % 2 ^ (d * i + k)) ((d * i + k) / 8) : Nat) : Int) = V0 at *
      generalize ((num d L / 2 ^ (d * i + k) % 2 * 2 ^ ((d * i + k) % 8) : Nat) : Int) = B2 at *
      generalize ((num d L / 2 ^ (d * i + k) % 2 : Nat) : Int) = B1 at *
      generalize (((ni L i).toNat / 2 ^ k : Nat) : Int) = Y1 at *
      generalize ni L i = y at *
      generalize (((d * i + k) % 8 : Nat) : Int) = M8 at *
      generalize hQ : (((d * i + k) / 8 : Nat) : Int) = Q8 at *
      generalize (d * i + k) / 8 = J at *
      generalize ((d * i + k : Nat) : Int) = A1 at *
      generalize ((d * i : Nat) : Int) = A0 at *
      simp (disch := first | assumption | omega | (simp only [List.length_cons, List.length_nil, List.length_set, List.length_append, List.length_replicate, List.length_map, List.length_range, List.length_take, List.length_drop, nums_length, bools_length, vecs_length]; first | done | omega)) [hk2, wk, wku, m1, m2, td, tm, wq, wm, ix, gx, sr, an, wb, sl, or, gB, h0, bs, p0, p1, p2, -shiftV_shl, -shiftV_shr]
    · rw [← hms]
      generalize bytL (num d L % 2 ^ (d * (i + 1))) M = T1 at *
      simp (disch := first | assumption | omega | (simp only [List.length_cons, List.length_nil, List.length_set, List.length_append, List.length_replicate, List.length_map, List.length_range, List.length_take, List.length_drop, nums_length, bools_length, vecs_length]; first | done | omega)) [wi]
  · have hnl : num d L % 2 ^ (d * L.length) = num d L := Nat.mod_eq_of_lt (num_lt hL)
    rw [hnl]
    have hol := bytL_len (num d L) M
    generalize bytL (num d L) M = O at *
    simp (disch := first | assumption | omega | (simp only [List.length_cons, List.length_nil, List.length_set, List.length_append, List.length_replicate, List.length_map, List.length_range, List.length_take, List.length_drop, nums_length, bools_length, vecs_length]; first | done | omega)) [lx, hol]
end Zab.YtjnomoefbffpoaaGreatDoorB
namespace Zab.YtjnomoefbffpoaaGreatDoorB
open Go
open Go.IntWalk (i64_in)
set_option maxRecDepth 100000
set_option linter.unusedSimpArgs false
set_option linter.unusedVariables false
attribute [-simp] getElem?_pos
def vecsBad (q n : Int) : List (List Int) → Nat
  | [] => 0
  | L :: r => if vecBad q n L = 0 then vecsBad q n r else vecBad q n L
theorem vecsBad_at {q n : Int} : ∀ {Ls : List (List Int)} {k : Nat} (hk : k < Ls.length), (∀ j (h : j < Ls.length), j < k → vecBad q n Ls[j] = 0) → vecBad q n Ls[k] ≠ 0 → vecsBad q n Ls = vecBad q n Ls[k]
  | L :: r, 0, hk, _, h => by simp only [vecsBad, List.getElem_cons_zero] at h ⊢; rw [if_neg h]
  | L :: r, k + 1, hk, hp, h => by
    have h0 := hp 0 (by simp) (by omega)
    simp only [List.getElem_cons_zero] at h0
    simp only [vecsBad, List.getElem_cons_succ] at h ⊢
    rw [if_pos h0]
    exact vecsBad_at (k := k) (Nat.lt_of_succ_lt_succ hk) (fun j hj hlt => hp (j + 1) (Nat.succ_lt_succ hj) (by omega)) h
theorem vecsBad_all {q n : Int} : ∀ {Ls : List (List Int)}, (∀ j (h : j < Ls.length), vecBad q n Ls[j] = 0) → vecsBad q n Ls = 0
  | [], _ => rfl
  | L :: r, h => by
    have h0 := h 0 (by simp)
    simp only [List.getElem_cons_zero] at h0
    simp only [vecsBad, h0, if_true]
    exact vecsBad_all fun j hj => h (j + 1) (Nat.succ_lt_succ hj)
theorem vecsBad_two {q n : Int} {L M : List Int} : vecsBad q n [L, M] = 0 ↔ vecBad q n L = 0 ∧ vecBad q n M = 0 := by
  unfold vecsBad vecsBad vecsBad
  split
  · rename_i h; split
    · rename_i h2; simp [h, h2]
    · rename_i h2; simp [h, h2]
  · rename_i h; simp [h]
set_option maxHeartbeats 1000000 in
theorem rBoth (q n : Int) {xs : List AV} {Ls : List (List Int)} (hx : IsLs .i64 xs Ls) (hs : ∀ L ∈ Ls, L.length < 9223372036854775807) (hm : xs.length < 9223372036854775807) : FF tab 141 [(.ag [.i .i64 (q), .i .i64 (n)]), .sl xs xs.length] = some ⟨errV (vecsBad q n Ls), []⟩ := by
  refine call_by (A := A141) rfl rfl ?_
  simp (disch := first | assumption | omega | (simp only [List.length_cons, List.length_nil, List.length_set, List.length_append, List.length_replicate, List.length_map, List.length_range, List.length_take, List.length_drop, nums_length, bools_length, vecs_length]; first | done | omega)) [A141]
  refine w_headsP xs.length (fun k => ⟨[(10, .i .i64 k), (9, .i .i64 xs.length), (8, .sl xs xs.length), (2, .rf 2 0)], [(2, [.i .i64 q, .i .i64 n])]⟩) (fun k => ∀ j (h : j < Ls.length), j < k → vecBad q n Ls[j] = 0) (by simp (disch := first | assumption | omega | (simp only [List.length_cons, List.length_nil, List.length_set, List.length_append, List.length_replicate, List.length_map, List.length_range, List.length_take, List.length_drop, nums_length, bools_length, vecs_length]; first | done | omega)) []) (fun j h1 h => by omega) ?_ ?_
  · intro k hk hp
    have hkL : k < Ls.length := by rw [← hx.1]; exact hk
    have hl := hx.2 k hk hkL
    have hV := rVector q n hl (hs _ (List.getElem_mem hkL))
    have hget : xs[k]? = some xs[k] := List.getElem?_eq_getElem hk
    have w1 : IntKind.i64.wrap ((k : Int) + 1) = (k : Int) + 1 := i64_in _ (by omega)
    have hkn : (k : Int).toNat = k := Int.toNat_natCast _
    have hat := vecsBad_at hkL hp
    have hc := vecBad_code q n Ls[k]
    have fe := errV_flat (vecBad q n Ls[k])
    have ne := errV_ne hc
    have fx := hl.flat
    have hnext : vecBad q n Ls[k] = 0 → ∀ j (h : j < Ls.length), j < k + 1 → vecBad q n Ls[j] = 0 := fun h0 j hj hlt => by
      by_cases e : j = k
      · subst e; exact h0
      · exact hp j hj (by omega)
    generalize xs[k] = x at *
    generalize vecBad q n Ls[k] = c at *
    have hlt : (k : Int) < (xs.length : Int) := by omega
    generalize hT : (k : Int) = T at *
    by_cases h0 : c = 0
    · have hn := hnext h0
      subst h0
      rw [show errV 0 = .nl from rfl] at hV
      simp (disch := first | assumption | omega | (simp only [List.length_cons, List.length_nil, List.length_set, List.length_append, List.length_replicate, List.length_map, List.length_range, List.length_take, List.length_drop, nums_length, bools_length, vecs_length]; first | done | omega)) [hkn, hget, hV, w1, hT]
      exact hn
    · rw [hat h0]
      simp (disch := first | assumption | omega | (simp only [List.length_cons, List.length_nil, List.length_set, List.length_append, List.length_replicate, List.length_map, List.length_range, List.length_take, List.length_drop, nums_length, bools_length, vecs_length]; first | done | omega)) [hkn, hget, hV, ne, h0]
  · intro hp
    rw [vecsBad_all fun j hj => hp j hj (by rw [hx.1]; exact hj)]
    simp (disch := first | assumption | omega | (simp only [List.length_cons, List.length_nil, List.length_set, List.length_append, List.length_replicate, List.length_map, List.length_range, List.length_take, List.length_drop, nums_length, bools_length, vecs_length]; first | done | omega)) [errV]
theorem vecBad_len {q n : Int} {L : List Int} (h : vecBad q n L = 0) : L.length ≤ 256 := by
  obtain ⟨_, hd, hn, _⟩ := vecBad_zero.1 h
  have := hd.hi
  omega
def zipTo (g : Int → Int → Int) (L M : List Int) : List Int := (List.range L.length).map fun j => g (ni L j) (ni M j)
theorem zipTo_len (g : Int → Int → Int) (L M : List Int) : (zipTo g L M).length = L.length := by simp [zipTo]
theorem zipTo_ni (g : Int → Int → Int) (L M : List Int) {j : Nat} (h : j < L.length) : ni (zipTo g L M) j = g (ni L j) (ni M j) := ni_map h
theorem rEach (q n : Int) {x y : AV} {L M : List Int} (hx : IsL .i64 x L) (hy : IsL .i64 y M) (hL : vecBad q n L = 0) (hM : vecBad q n M = 0) {f : Nat} {g : Int → Int → Int} (hf : ∀ a b, FF tab f [.i .i64 a, .i .i64 b, .i .i64 q] = some ⟨.i .i64 (g a b), []⟩) :
    FF tab 114 [(.ag [.i .i64 (q), .i .i64 (n)]), x, y, .fn f []] = some ⟨.tp [.os (nums .i64 (zipTo g L M)) L.length 1, .nl], []⟩ := by
  have hB := rBoth q n (.two hx hy) (by intro K hK; rcases List.mem_cons.1 hK with rfl | hK; exact Nat.lt_of_le_of_lt (vecBad_len hL) (by omega); rcases List.mem_cons.1 hK with rfl | hK; exact Nat.lt_of_le_of_lt (vecBad_len hM) (by omega); cases hK) (by simp)
  rw [vecsBad_two.2 ⟨hL, hM⟩, show errV 0 = .nl from rfl] at hB
  rw [show [x, y].length = 2 from rfl] at hB
  obtain ⟨hq, hd, hn, _⟩ := vecBad_zero.1 hL
  obtain ⟨_, _, hn2, _⟩ := vecBad_zero.1 hM
  refine call_by (A := A114) rfl rfl ?_
  have fx := hx.flat
  have fy := hy.flat
  have lo := hd.lo
  have hi := hd.hi
  have hN : n.toNat = L.length := by omega
  simp (disch := first | assumption | omega | (simp only [List.length_cons, List.length_nil, List.length_set, List.length_append, List.length_replicate, List.length_map, List.length_range, List.length_take, List.length_drop, nums_length, bools_length, vecs_length]; first | done | omega)) [A114, hB, hN]
  have hz := fillTo_zero (fun j => g (ni L j) (ni M j)) L.length
  refine w_heads L.length (fun k => ⟨[(26, .i .i64 k), (25, .i .i64 n), (11, .rs 23 0 L.length 1), (4, .rf 4 0), (3, .fn f []), (2, y), (1, x)], [(23, nums .i64 (fillTo (fun j => g (ni L j) (ni M j)) L.length k)), (4, [.i .i64 q, .i .i64 n])]⟩) (by rw [hz]; simp (disch := first | assumption | omega | (simp only [List.length_cons, List.length_nil, List.length_set, List.length_append, List.length_replicate, List.length_map, List.length_range, List.length_take, List.length_drop, nums_length, bools_length, vecs_length]; first | done | omega)) [← hn]) ?_ ?_
  · intro k hk
    have w1 : IntKind.i64.wrap ((k : Int) + 1) = (k : Int) + 1 := i64_in _ (by omega)
    have hkn : (k : Int).toNat = k := Int.toNat_natCast _
    have hix := ixSV_isL hx (k' := .i64) (j := (k : Int)) (by omega) (by omega)
    have hiy := ixSV_isL hy (k' := .i64) (j := (k : Int)) (by omega) (by omega)
    rw [hkn] at hix hiy
    have hgx := nums_get (k := .i64) hk
    have hgy := nums_get (k := .i64) (L := M) (j := k) (by omega)
    have hM' := hf (ni L k) (ni M k)
    have hl := fillTo_len (fun j => g (ni L j) (ni M j)) L.length k
    have hset := fillTo_set (fun j => g (ni L j) (ni M j)) hk
    have hlt : (k : Int) < (L.length : Int) := by omega
    generalize hT : (k : Int) = T at *
    generalize fillTo (fun j => g (ni L j) (ni M j)) L.length k = K at *
    generalize g (ni L k) (ni M k) = V at *
    simp (disch := first | assumption | omega | (simp only [List.length_cons, List.length_nil, List.length_set, List.length_append, List.length_replicate, List.length_map, List.length_range, List.length_take, List.length_drop, nums_length, bools_length, vecs_length]; first | done | omega)) [hix, hiy, hgx, hgy, hkn, ↓st_callT, callT_fn, hM', w1, hT, nums_set, hset]
  · rw [fillTo_all]
    simp (disch := first | assumption | omega | (simp only [List.length_cons, List.length_nil, List.length_set, List.length_append, List.length_replicate, List.length_map, List.length_range, List.length_take, List.length_drop, nums_length, bools_length, vecs_length]; first | done | omega)) [← hn]
    rfl
theorem rAdd (q n : Int) {x y : AV} {L M : List Int} (hx : IsL .i64 x L) (hy : IsL .i64 y M) (hL : vecBad q n L = 0) (hM : vecBad q n M = 0) : FF tab 78 [(.ag [.i .i64 (q), .i .i64 (n)]), x, y] = some ⟨.tp [slv .i64 (zipTo (fun a b => (a + b) % q) L M), .nl], []⟩ := by
  refine call_by (A := A78) rfl rfl ?_
  have fx := hx.flat
  have fy := hy.flat
  have h := rEach q n hx hy hL hM (f := 109) (g := fun a b => (a + b) % q) (fun a b => Add a b (vecBad_zero.1 hL).1)
  rw [← zipTo_len (fun a b => (a + b) % q) L M] at h
  simp (disch := first | assumption | omega | (simp only [List.length_cons, List.length_nil, List.length_set, List.length_append, List.length_replicate, List.length_map, List.length_range, List.length_take, List.length_drop, nums_length, bools_length, vecs_length]; first | done | omega)) [A78, h]
def cen (q a : Int) : Int := if (q - 1) / 2 < a % q then a % q - q else a % q
end Zab.YtjnomoefbffpoaaGreatDoorB
namespace Zab.YtjnomoefbffpoaaGreatDoorB
open Go
open Go.IntWalk (i64_in)
set_option maxRecDepth 100000
set_option linter.unusedSimpArgs false
set_option linter.unusedVariables false
attribute [-simp] getElem?_pos
def depGo (q n : Int) : Nat → Nat → Nat
  | 0, d => d
  | f + 1, d => if (q - 1) % 2 ^ (d + 2) = 0 ∧ (2 : Int) ^ (d + 1) ≤ n then depGo q n f (d + 1) else d
def dep (q n : Int) : Nat := depGo q n 9 0
def isRt (q : Int) (d : Nat) (h : Int) : Prop := h ^ 2 ^ d % q = q - 1
instance (q : Int) (d : Nat) (h : Int) : Decidable (isRt q d h) := by unfold isRt; infer_instance
def wit (q : Int) (d : Nat) : Int :=
  if q = 17 then 3 ^ 2 ^ (3 - d) % 17 else if q = 97 then 28 ^ 2 ^ (4 - d) % 97 else if q = 257 then 3 ^ 2 ^ (7 - d) % 257 else if q = 3329 then 3061 ^ 2 ^ (7 - d) % 3329
  else if q = 7681 then 7146 ^ 2 ^ (8 - d) % 7681 else if q = 12289 then 3400 ^ 2 ^ (8 - d) % 12289 else 1921994 ^ 2 ^ (8 - d) % 8380417
def qs : List Int := [17, 97, 257, 3329, 7681, 12289, 8380417]
def ns : List Int := [4, 8, 16, 32, 64, 128, 256]
theorem right_qs {q : Int} (h : Right q) : q ∈ qs := by rcases h with rfl | rfl | rfl | rfl | rfl | rfl | rfl <;> simp [qs]
theorem deg_ns {n : Int} (h : Deg n) : n ∈ ns := by rcases h with rfl | rfl | rfl | rfl | rfl | rfl | rfl <;> simp [ns]
theorem dep_all : ∀ q ∈ qs, ∀ n ∈ ns, 1 ≤ dep q n ∧ dep q n ≤ 8 ∧ n.toNat = n.toNat / 2 ^ dep q n * 2 ^ dep q n ∧ 0 < n.toNat / 2 ^ dep q n ∧ isRt q (dep q n) (wit q (dep q n)) ∧ 2 ≤ wit q (dep q n) ∧ wit q (dep q n) < q ∧
    (q - 1) % 2 ^ (dep q n + 1) = 0 ∧ ¬ ((q - 1) % 2 ^ (dep q n + 2) = 0 ∧ (2 : Int) ^ (dep q n + 1) ≤ n) := by decide +kernel
theorem dep_ok {q n : Int} (hq : Right q) (hd : Deg n) : 1 ≤ dep q n ∧ dep q n ≤ 8 ∧ n.toNat = n.toNat / 2 ^ dep q n * 2 ^ dep q n ∧ 0 < n.toNat / 2 ^ dep q n ∧ isRt q (dep q n) (wit q (dep q n)) ∧ 2 ≤ wit q (dep q n) ∧ wit q (dep q n) < q ∧
    (q - 1) % 2 ^ (dep q n + 1) = 0 ∧ ¬ ((q - 1) % 2 ^ (dep q n + 2) = 0 ∧ (2 : Int) ^ (dep q n + 1) ≤ n) := dep_all q (right_qs hq) n (deg_ns hd)
theorem least {P : Nat → Prop} : ∀ n, P n → ∃ k, k ≤ n ∧ P k ∧ ∀ j, j < k → ¬ P j := by
  intro n
  induction n using Nat.strongRecOn with
  | _ n ih =>
    intro h
    by_cases hx : ∃ j, j < n ∧ P j
    · obtain ⟨j, hj, hp⟩ := hx
      obtain ⟨k, k1, k2, k3⟩ := ih j hj hp
      exact ⟨k, by omega, k2, k3⟩
    · exact ⟨n, Nat.le_refl n, h, fun j hj hp => hx ⟨j, hj, hp⟩⟩
open Classical in
noncomputable def leastRt (q : Int) (d : Nat) : Nat := if h : ∃ k : Nat, isRt q d (2 + k) ∧ ∀ j : Nat, j < k → ¬ isRt q d (2 + j) then h.choose else 0
theorem leastRt_ok {q : Int} {d : Nat} {w : Int} (hw : isRt q d w) (h2 : 2 ≤ w) : isRt q d (2 + leastRt q d) ∧ (∀ j : Nat, j < leastRt q d → ¬ isRt q d (2 + j)) ∧ 2 + (leastRt q d : Int) ≤ w := by
  obtain ⟨k, k1, k2, k3⟩ := least (P := fun k : Nat => isRt q d (2 + k)) (w - 2).toNat (by rw [show (2 + ((w - 2).toNat : Int)) = w by omega]; exact hw)
  have hx : ∃ k : Nat, isRt q d (2 + k) ∧ ∀ j : Nat, j < k → ¬ isRt q d (2 + j) := ⟨k, k2, k3⟩
  unfold leastRt
  rw [dif_pos hx]
  obtain ⟨s1, s2⟩ := hx.choose_spec
  refine ⟨s1, s2, ?_⟩
  have : hx.choose ≤ k := by
    rcases Nat.lt_or_ge k hx.choose with h | h
    · exact absurd k2 (s2 k h)
    · exact h
  omega
noncomputable def rt (q n : Int) : Int := if q = 3329 ∧ n = 256 then 17 else if q = 8380417 ∧ n = 256 then 1753 else 2 + leastRt q (dep q n)
theorem rt_isRt {q n : Int} (hq : Right q) (hd : Deg n) : isRt q (dep q n) (rt q n) ∧ 2 ≤ rt q n ∧ rt q n < q := by
  obtain ⟨_, _, _, _, h5, h6, h7, _, _⟩ := dep_ok hq hd
  unfold rt
  split
  · rename_i h
    obtain ⟨rfl, rfl⟩ := h
    decide +kernel
  · split
    · rename_i h
      obtain ⟨rfl, rfl⟩ := h
      decide +kernel
    · obtain ⟨l1, l2, l3⟩ := leastRt_ok h5 h6
      exact ⟨l1, by omega, by omega⟩
def mlen (q n : Int) : Nat := n.toNat / 2 ^ dep q n
theorem ntt_ring {q n : Int} (hq : Right q) (hd : Deg n) : NRing q n.toNat (dep q n) (mlen q n) (rt q n) := by
  obtain ⟨_, _, h3, h4, _⟩ := dep_ok hq hd
  have lo := hq.lo
  refine ⟨by omega, h4, h3, ?_⟩
  have h := (rt_isRt hq hd).1
  unfold isRt at h
  unfold Eqm
  rw [h, show (-1 : Int) = (q - 1) + q * (-1) by omega, Int.add_mul_emod_self_left]
  exact (Int.emod_eq_of_lt (by omega) (by omega)).symm
theorem nDepth {q n : Int} (hq : Right q) (hd : Deg n) : FF tab 142 [(.ag [.i .i64 (q), .i .i64 (n)])] = some ⟨.i .i64 (dep q n), []⟩ := by
  rcases hq with rfl | rfl | rfl | rfl | rfl | rfl | rfl <;> rcases hd with rfl | rfl | rfl | rfl | rfl | rfl | rfl <;> exact FF_of (n := 60) (by kernel_rfl)
theorem binInts2 (a b c d : Int) : binV (.ints 2) .eql (.ag [.i .i64 a, .i .i64 b]) (.ag [.i .i64 c, .i .i64 d]) = some (.b (decide (a = c) && decide (b = d))) := by
  simp [binV, eqlV, sameInts]
set_option maxHeartbeats 2000000 in
theorem nRoot {q n : Int} (hq : Right q) (hd : Deg n) : FF tab 115 [(.ag [.i .i64 (q), .i .i64 (n)])] = some ⟨.tp [.i .i64 (rt q n), .i .i64 (dep q n), .nl], []⟩ := by
  refine call_by (A := A115) rfl rfl ?_
  have hV := rValid q n
  rw [show valid q n = 0 from if_pos ⟨hq, hd⟩, show errV 0 = .nl from rfl] at hV
  have hD := nDepth hq hd
  have lo := hq.lo
  have hi := hq.hi
  obtain ⟨d1, d2, _, _, h5, h6, h7, _, _⟩ := dep_ok hq hd
  by_cases c1 : q = 3329 ∧ n = 256
  · obtain ⟨rfl, rfl⟩ := c1
    rw [show rt 3329 256 = 17 from if_pos ⟨rfl, rfl⟩]
    generalize dep 3329 256 = D at *
    simp (disch := first | assumption | omega | (simp only [List.length_cons, List.length_nil, List.length_set, List.length_append, List.length_replicate, List.length_map, List.length_range, List.length_take, List.length_drop, nums_length, bools_length, vecs_length]; first | done | omega)) [A115, hV, hD, binInts2]
  · by_cases c2 : q = 8380417 ∧ n = 256
    · obtain ⟨rfl, rfl⟩ := c2
      rw [show rt 8380417 256 = 1753 from by unfold rt; rw [if_neg (by omega), if_pos ⟨rfl, rfl⟩]]
      generalize dep 8380417 256 = D at *
      simp (disch := first | assumption | omega | (simp only [List.length_cons, List.length_nil, List.length_set, List.length_append, List.length_replicate, List.length_map, List.length_range, List.length_take, List.length_drop, nums_length, bools_length, vecs_length]; first | done | omega)) [A115, hV, hD, binInts2]
    · have hr : rt q n = 2 + leastRt q (dep q n) := by unfold rt; rw [if_neg c1, if_neg c2]
      rw [hr]
      obtain ⟨l1, l2, l3⟩ := leastRt_ok h5 h6
      generalize wit q (dep q n) = w at *
      generalize dep q n = D at *
      have e1 : (decide (q = 3329) && decide (n = 256)) = false := by
        rw [Bool.and_eq_false_iff, decide_eq_false_iff_not, decide_eq_false_iff_not]; omega
      have e2 : (decide (q = 8380417) && decide (n = 256)) = false := by
        rw [Bool.and_eq_false_iff, decide_eq_false_iff_not, decide_eq_false_iff_not]; omega
      have sh := shl_one (d := D) (by omega)
      have wq : IntKind.i64.wrap (q - 1) = q - 1 := i64_in _ (by omega)
      have hp : (2 ^ D : Nat) ≤ 2 ^ 8 := pow_le d2
      have hno : ∀ i : Nat, i < leastRt q D → ¬ (2 + (i : Int)) ^ 2 ^ D % q = q - 1 := fun i h => l2 i h
      have hyes : (2 + (leastRt q D : Int)) ^ 2 ^ D % q = q - 1 := l1
      clear l1 l2 hr h5 h6
      generalize leastRt q D = R at *
      generalize 2 ^ D = Q at *
      have hst : ∀ i : Nat, FF tab 116 [.i .i64 (2 + i), .i .i64 (Q : Int), .i .i64 q] = some ⟨.i .i64 ((2 + (i : Int)) ^ Q % q), []⟩ := fun i => by
        have := Pow (2 + (i : Int)) hq (e := (Q : Int)) (by omega) (by omega)
        rwa [Int.toNat_natCast] at this
      simp (disch := first | assumption | omega | (simp only [List.length_cons, List.length_nil, List.length_set, List.length_append, List.length_replicate, List.length_map, List.length_range, List.length_take, List.length_drop, nums_length, bools_length, vecs_length]; first | done | omega)) [A115, hV, hD, binInts2, e1, e2, -shiftV_shl, -shiftV_shr]
      refine w_heads R (fun i => ⟨[(7, .i .i64 (2 + i)), (6, .i .i64 D), (1, .rf 1 0)], [(1, [.i .i64 q, .i .i64 n])]⟩) (by simp (disch := first | assumption | omega | (simp only [List.length_cons, List.length_nil, List.length_set, List.length_append, List.length_replicate, List.length_map, List.length_range, List.length_take, List.length_drop, nums_length, bools_length, vecs_length]; first | done | omega)) []) ?_ ?_
      · intro i hi'
        have h1 := hst i
        have h2 := hno i hi'
        have w1 : IntKind.i64.wrap (2 + (i : Int) + 1) = 2 + ((i : Int) + 1) := by rw [i64_in _ (by omega)]; omega
        generalize (2 + (i : Int)) ^ Q % q = V at *
        generalize hT : (i : Int) = I at *
        simp (disch := first | assumption | omega | (simp only [List.length_cons, List.length_nil, List.length_set, List.length_append, List.length_replicate, List.length_map, List.length_range, List.length_take, List.length_drop, nums_length, bools_length, vecs_length]; first | done | omega)) [sh, h1, h2, wq, w1, hT, -shiftV_shl, -shiftV_shr]
      · have h1 := hst R
        rw [hyes] at h1
        generalize (R : Int) = I at *
        simp (disch := first | assumption | omega | (simp only [List.length_cons, List.length_nil, List.length_set, List.length_append, List.length_replicate, List.length_map, List.length_range, List.length_take, List.length_drop, nums_length, bools_length, vecs_length]; first | done | omega)) [sh, h1, wq, -shiftV_shl, -shiftV_shr]
theorem nRev {i b : Nat} (hb : b ≤ 20) (hi : i < 2 ^ 40) : FF tab 117 [.i .i64 i, .i .i64 b] = some ⟨.i .i64 (revN b i), []⟩ := by
  refine call_by (A := A117) rfl rfl ?_
  have c1 : ¬ (b : Int) < 0 := by omega
  have c2 : ¬ (20 : Int) < (b : Int) := by omega
  simp (disch := first | assumption | omega | (simp only [List.length_cons, List.length_nil, List.length_set, List.length_append, List.length_replicate, List.length_map, List.length_range, List.length_take, List.length_drop, nums_length, bools_length, vecs_length]; first | done | omega)) [A117, c1, c2, -shiftV_shl, -shiftV_shr]
  refine w_heads b (fun k => ⟨[(13, .i .i64 k), (12, .i .i64 b), (5, .i .i64 (revN k i)), (0, .i .i64 ((i / 2 ^ k : Nat) : Int))], []⟩) (by simp (disch := first | assumption | omega | (simp only [List.length_cons, List.length_nil, List.length_set, List.length_append, List.length_replicate, List.length_map, List.length_range, List.length_take, List.length_drop, nums_length, bools_length, vecs_length]; first | done | omega)) [revN]) ?_ ?_
  · intro k hk
    have w1 : IntKind.i64.wrap ((k : Int) + 1) = (k : Int) + 1 := i64_in _ (by omega)
    have hlt := revN_lt i k
    have hp : 2 ^ k ≤ 2 ^ 20 := pow_le (by omega)
    have hdv : i / 2 ^ k ≤ i := Nat.div_le_self _ _
    have s1 := shl_by (a := revN k i) (d := 1) (by omega) (by omega)
    have a1 := and_one (a := i / 2 ^ k) (by omega)
    have o1 := or_low (a := revN k i) (b := i / 2 ^ k % 2) (i := 1) (by omega) (by omega)
    have s2 := shr_by (a := i / 2 ^ k) (d := 1) (by omega)
    have e1 : revN k i * 2 ^ 1 + i / 2 ^ k % 2 = revN (k + 1) i := by simp only [revN]; omega
    have e2 : i / 2 ^ k / 2 ^ 1 = i / 2 ^ (k + 1) := by rw [Nat.div_div_eq_div_mul, ← Nat.pow_add]
    rw [e1] at o1
    rw [e2] at s2
    have hkb : (k : Int) < (b : Int) := by omega
    generalize i / 2 ^ (k + 1) = I' at *
    generalize revN (k + 1) i = R' at *
    generalize i / 2 ^ k % 2 = M at *
    generalize i / 2 ^ k = I at *
    generalize revN k i * 2 ^ 1 = RR at *
    generalize revN k i = R at *
    simp only [show ((1 : Nat) : Int) = 1 from rfl] at s1 s2
    generalize hT : (k : Int) = K at *
    simp (disch := first | assumption | omega | (simp only [List.length_cons, List.length_nil, List.length_set, List.length_append, List.length_replicate, List.length_map, List.length_range, List.length_take, List.length_drop, nums_length, bools_length, vecs_length]; first | done | omega)) [s1, a1, o1, s2, w1, hkb, hT, -shiftV_shl, -shiftV_shr]
  · simp (disch := first | assumption | omega | (simp only [List.length_cons, List.length_nil, List.length_set, List.length_append, List.length_replicate, List.length_map, List.length_range, List.length_take, List.length_drop, nums_length, bools_length, vecs_length]; first | done | omega)) []
noncomputable def rootsL (q n : Int) : List Int := (List.range (2 ^ dep q n)).map fun k => rt q n ^ revN (dep q n) k % q
theorem rootsL_len (q n : Int) : (rootsL q n).length = 2 ^ dep q n := by simp [rootsL]
theorem rootsL_ni (q n : Int) {k : Nat} (h : k < 2 ^ dep q n) : ni (rootsL q n) k = rt q n ^ revN (dep q n) k % q := ni_map h
theorem nRoots {q n : Int} (hq : Right q) (hd : Deg n) : FF tab 106 [(.ag [.i .i64 (q), .i .i64 (n)])] = some ⟨.tp [.os (nums .i64 (rootsL q n)) (2 ^ dep q n) 1, .i .i64 (dep q n), .nl], []⟩ := by
  refine call_by (A := A106) rfl rfl ?_
  have hR := nRoot hq hd
  obtain ⟨d1, d2, _⟩ := dep_ok hq hd
  unfold rootsL
  generalize rt q n = g at *
  generalize dep q n = D at *
  have sh := shl_one (d := D) (by omega)
  have hp : 2 ^ D ≤ 2 ^ 8 := pow_le d2
  have hrev : ∀ k : Nat, k < 2 ^ D → FF tab 117 [.i .i64 k, .i .i64 D] = some ⟨.i .i64 (revN D k), []⟩ := fun k hk => nRev (by omega) (by omega)
  have hpow : ∀ k : Nat, k < 2 ^ D → FF tab 116 [.i .i64 g, .i .i64 (revN D k), .i .i64 q] = some ⟨.i .i64 (g ^ revN D k % q), []⟩ := fun k hk => by
    have hl := revN_lt k D
    have := Pow g hq (e := (revN D k : Int)) (by omega) (by omega)
    rwa [Int.toNat_natCast] at this
  generalize 2 ^ D = Q at *
  simp (disch := first | assumption | omega | (simp only [List.length_cons, List.length_nil, List.length_set, List.length_append, List.length_replicate, List.length_map, List.length_range, List.length_take, List.length_drop, nums_length, bools_length, vecs_length]; first | done | omega)) [A106, hR, sh, -shiftV_shl, -shiftV_shr]
  refine w_heads Q (fun k => ⟨[(21, .i .i64 k), (20, .i .i64 Q), (8, .rs 8 0 k 1), (6, .i .i64 D), (5, .i .i64 g), (1, .rf 1 0)], [(8, nums .i64 ((List.range k).map fun k => g ^ revN D k % q)), (1, [.i .i64 q, .i .i64 n])]⟩) (by simp (disch := first | assumption | omega | (simp only [List.length_cons, List.length_nil, List.length_set, List.length_append, List.length_replicate, List.length_map, List.length_range, List.length_take, List.length_drop, nums_length, bools_length, vecs_length]; first | done | omega)) [nums_nil]) ?_ ?_
  · intro k hk
    have w1 : IntKind.i64.wrap ((k : Int) + 1) = (k : Int) + 1 := i64_in _ (by omega)
    have h1 := hrev k hk
    have h2 := hpow k hk
    have hmp := mapTo_succ (fun k => g ^ revN D k % q) k
    have hml : (nums .i64 ((List.range k).map fun k => g ^ revN D k % q)).length = k := by simp [nums]
    have hsn := nums_snoc .i64 ((List.range k).map fun k => g ^ revN D k % q) (g ^ revN D k % q)
    rw [← hmp] at hsn
    have hlt : (k : Int) < (Q : Int) := by omega
    generalize hT : (k : Int) = T at *
    generalize g ^ revN D k % q = V at *
    generalize revN D k = W at *
    generalize nums .i64 ((List.range k).map fun k => g ^ revN D k % q) = F at *
    generalize nums .i64 ((List.range (k + 1)).map fun k => g ^ revN D k % q) = F' at *
    clear hmp hrev hpow
    simp (disch := first | assumption | omega | (simp only [List.length_cons, List.length_nil, List.length_set, List.length_append, List.length_replicate, List.length_map, List.length_range, List.length_take, List.length_drop, nums_length, bools_length, vecs_length]; first | done | omega)) [h1, h2, w1, hT, hsn, hlt, -shiftV_shl, -shiftV_shr]
  · have hml : (nums .i64 ((List.range Q).map fun k => g ^ revN D k % q)).length = Q := by simp [nums]
    generalize nums .i64 ((List.range Q).map fun k => g ^ revN D k % q) = F at *
    simp (disch := first | assumption | omega | (simp only [List.length_cons, List.length_nil, List.length_set, List.length_append, List.length_replicate, List.length_map, List.length_range, List.length_take, List.length_drop, nums_length, bools_length, vecs_length]; first | done | omega)) []
end Zab.YtjnomoefbffpoaaGreatDoorB
namespace Zab.YtjnomoefbffpoaaGreatDoorB
open Go
open Go.IntWalk (i64_in)
set_option maxRecDepth 100000
set_option linter.unusedSimpArgs false
set_option linter.unusedVariables false
attribute [-simp] getElem?_pos
theorem sl_ne {cs : List AV} {n : Nat} (h : 0 < cs.length) : binV .slc .eql (.sl cs n) .z = some (.b false) := binV_slcE h
theorem nClone {L : List Int} (h : 0 < L.length) (h2 : L.length ≤ 100000) : FF tab 107 [.sl (nums .i64 L) L.length] = some ⟨.os (nums .i64 L) L.length 1, []⟩ := by
  refine call_by (A := A107) rfl rfl ?_
  have hl := nums_length .i64 L
  have hne := sl_ne (cs := nums .i64 L) (n := L.length) (by omega)
  have hz : zrep [AV.i .i64 0] 0 = [] := rfl
  generalize nums .i64 L = C at *
  simp (disch := first | assumption | omega | (simp only [List.length_cons, List.length_nil, List.length_set, List.length_append, List.length_replicate, List.length_map, List.length_range, List.length_take, List.length_drop, nums_length, bools_length, vecs_length]; first | done | omega)) [A107, hne, hz, hl]
noncomputable def toL (q n : Int) (L : List Int) : List Int := layL q (rt q n) (ni L) (mlen q n) (dep q n) (dep q n)
theorem toL_len {q n : Int} (hq : Right q) (hd : Deg n) (L : List Int) : (toL q n L).length = n.toNat := by
  obtain ⟨_, _, h3, _⟩ := dep_ok hq hd
  unfold toL
  rw [layL_len]; exact h3.symm
theorem layL_first {q n : Int} {L : List Int} (hq : Right q) (hd : Deg n) (hn : (L.length : Int) = n) (hm : Mods q L) : layL q (rt q n) (ni L) (mlen q n) (dep q n) 0 = L := by
  obtain ⟨_, _, h3, h4, _⟩ := dep_ok hq hd
  have hp : parts (mlen q n) (dep q n) 0 = n.toNat := by unfold parts mlen; exact h3.symm
  refine ni_extL (by rw [layL_len]; unfold mlen; omega) fun j hj => ?_
  rw [layL_len] at hj
  have hj' : j < n.toNat := by unfold mlen at hj; omega
  have := layL_at q (rt q n) (ni L) (m := mlen q n) (d := dep q n) (l := 0) (b := 0) (j := j) h4 (by omega) (by simp) (by rw [hp]; exact hj')
  rw [Nat.zero_mul, Nat.zero_add] at this
  rw [this, lay_zero]
  have a := mods_at hm (j := j) (by omega)
  exact Int.emod_eq_of_lt a.1 a.2
set_option maxHeartbeats 4000000 in
theorem nTo (q n : Int) {x : AV} {L : List Int} (hx : IsL .i64 x L) (hL : vecBad q n L = 0) : FF tab 72 [(.ag [.i .i64 (q), .i .i64 (n)]), x] = some ⟨.tp [.os (nums .i64 (toL q n L)) L.length 1, .nl], []⟩ := by
  obtain ⟨hq, hd, hn, hm⟩ := vecBad_zero.1 hL
  have hV := rVector q n hx (by have := vecBad_len hL; omega)
  rw [hL, show errV 0 = .nl from rfl] at hV
  have hR := nRoots hq hd
  have hnr := ntt_ring hq hd
  have hzn : ∀ k, k < 2 ^ dep q n → ni (rootsL q n) k = rt q n ^ revN (dep q n) k % q := fun k hk => rootsL_ni q n hk
  have hzl := rootsL_len q n
  obtain ⟨d1, d2, h3, h4, _⟩ := dep_ok hq hd
  have h0 := layL_first hq hd hn hm
  unfold toL
  have lo := hq.lo
  have dlo := hd.lo
  have dhi := hd.hi
  have hmN : n.toNat = mlen q n * 2 ^ dep q n := h3
  have hm0 : 0 < mlen q n := h4
  generalize rt q n = g at *
  generalize mlen q n = m at *
  generalize rootsL q n = Z at *
  generalize dep q n = D at *
  have hx' : x = .sl (nums .i64 L) L.length := by
    rcases hx with h | ⟨_, h⟩
    · exact h
    · subst h; simp at hn; omega
  subst hx'
  have hC := nClone (L := L) (by omega) (by omega)
  have hN : n.toNat = L.length := by omega
  rw [hN] at hmN
  have hl2 := pow_le d2
  refine call_by (A := A72) rfl rfl ?_
  simp (disch := first | assumption | omega | (simp only [List.length_cons, List.length_nil, List.length_set, List.length_append, List.length_replicate, List.length_map, List.length_range, List.length_take, List.length_drop, nums_length, bools_length, vecs_length]; first | done | omega)) [A72, hV, hR, hC]
  refine w_heads D (fun l => ⟨[(35, .i .i64 l), (34, .i .i64 D), (10, .rs 33 0 L.length 1), (7, .sl (nums .i64 Z) (2 ^ D)), (2, .rf 2 0)], [(33, nums .i64 (layL q g (ni L) m D l)), (2, [.i .i64 q, .i .i64 n])]⟩) (by rw [h0]; simp (disch := first | assumption | omega | (simp only [List.length_cons, List.length_nil, List.length_set, List.length_append, List.length_replicate, List.length_map, List.length_range, List.length_take, List.length_drop, nums_length, bools_length, vecs_length]; first | done | omega)) []) ?_ ?_
  · intro l hl
    have w1 : IntKind.i64.wrap ((l : Int) + 1) = (l : Int) + 1 := i64_in _ (by omega)
    have hs : L.length / 2 ^ (l + 1) = parts m D (l + 1) := by
      rw [hmN]; unfold parts
      rw [show 2 ^ D = 2 ^ (D - (l + 1)) * 2 ^ (l + 1) by rw [← Nat.pow_add]; congr 1; omega, ← Nat.mul_assoc, Nat.mul_div_cancel _ (Nat.two_pow_pos _)]
    have s1 := shr_by (a := L.length) (d := l + 1) (by omega)
    rw [hs] at s1
    have s2 := shl_one (d := l) (by omega)
    have hB0 := Nat.two_pow_pos l
    have hpl : 2 ^ l * 2 ≤ 2 ^ D := by rw [← Nat.pow_succ]; exact pow_le (by omega)
    have hS := parts_half (m := m) hl
    have hs0 := parts_pos (m := m) (d := D) (l := l + 1) hm0
    have hall := parts_all (m := m) (show l ≤ D by omega)
    rw [← hmN] at hall
    have hpair := fun (b t : Nat) (hb : b < 2 ^ l) (ht : t < parts m D (l + 1)) => lay_pair hnr (ni L) hl hb ht
    have hby : ∀ b : Nat, b < 2 ^ l → ni Z (2 ^ l + b) = g ^ expH D l b % q := fun b hb => by rw [hzn _ (by omega), expH_rev hl hb]
    have hF := layL_len q g (ni L) m D l
    have hH := layL_len q g (ni L) m D (l + 1)
    rw [← hmN] at hF hH
    have hlD : (l : Int) < (D : Int) := by omega
    rw [show (((l + 1 : Nat)) : Int) = (l : Int) + 1 from by omega] at s1
    rw [hn] at s1
    generalize layL q g (ni L) m D l = F at *
    generalize layL q g (ni L) m D (l + 1) = H at *
    generalize parts m D l = S at *
    generalize parts m D (l + 1) = s at *
    generalize 2 ^ l = B at *
    generalize 2 ^ D = Q at *
    have hst := mixL_start (n := L.length) (S := S) (by omega) (F := F) (H := H) hF
    have hend := mixL_end (n := L.length) (S := S) (B := B) (by rw [hall]) (F := F) (H := H) hH
    have hSN : S ≤ L.length := by rw [← hall]; exact Nat.le_mul_of_pos_left _ (by omega)
    have k1 : IntKind.i64.wrap (2 * (s : Int)) = (S : Int) := by rw [i64_in _ (by omega)]; omega
    simp (disch := first | assumption | omega | (simp only [List.length_cons, List.length_nil, List.length_set, List.length_append, List.length_replicate, List.length_map, List.length_range, List.length_take, List.length_drop, nums_length, bools_length, vecs_length]; first | done | omega)) [s1, s2, w1, hlD, -shiftV_shl, -shiftV_shr]
    refine w_heads B (fun b => ⟨[(45, .i .i64 b), (44, .i .i64 B), (35, .i .i64 l), (34, .i .i64 D), (12, .i .i64 s), (11, .i .i64 l), (10, .rs 33 0 L.length 1), (7, .sl (nums .i64 Z) Q), (2, .rf 2 0)], [(33, nums .i64 (mixL L.length S F H b 0)), (2, [.i .i64 q, .i .i64 n])]⟩) (by rw [hst]; simp (disch := first | assumption | omega | (simp only [List.length_cons, List.length_nil, List.length_set, List.length_append, List.length_replicate, List.length_map, List.length_range, List.length_take, List.length_drop, nums_length, bools_length, vecs_length]; first | done | omega)) []) ?_ ?_
    · intro b hb
      have wb : IntKind.i64.wrap ((b : Int) + 1) = (b : Int) + 1 := i64_in _ (by omega)
      have hbS : b * S + S ≤ L.length := by
        rw [← hall]
        have : (b + 1) * S ≤ B * S := Nat.mul_le_mul_right _ hb
        rw [Nat.add_mul, Nat.one_mul] at this; exact this
      have wz : IntKind.i64.wrap ((B : Int) + (b : Int)) = (B : Int) + b := i64_in _ (by omega)
      have hgz := nums_get (k := .i64) (L := Z) (j := B + b) (by omega)
      rw [hby b hb] at hgz
      have tz : ((B : Int) + (b : Int)).toNat = B + b := by omega
      have hZl := nums_length .i64 Z
      have bz : 0 ≤ (B : Int) + b ∧ (B : Int) + b < (Q : Int) ∧ B + b < Z.length := by omega
      have hbB : (b : Int) < (B : Int) := by omega
      have hnx := mixL_next (n := L.length) (S := S) (s := s) hS (by omega) F H b
      have hpb := fun t (ht : t < s) => hpair b t hb ht
      have kU : IntKind.i64.wrap ((S : Int) * (b : Int)) = ((b * S : Nat) : Int) := by
        rw [show (S : Int) * (b : Int) = ((b * S : Nat) : Int) by rw [Int.natCast_mul, Int.mul_comm]]
        exact i64_in _ (by omega)
      have hpr := fun t (ht : t < s) => mixL_pair (n := L.length) (S := S) (s := s) (b := b) (t := t) hS ht hbS (F := F) (H := H) (hpb t ht).1 (hpb t ht).2
      have hml := fun t => mixL_len L.length S F H b t
      clear hpair hby hpb hall
      generalize mixL L.length S F H (b + 1) 0 = Nx at *
      generalize g ^ expH D l b % q = V at *
      generalize b * S = U at *
      simp (disch := first | assumption | omega | (simp only [List.length_cons, List.length_nil, List.length_set, List.length_append, List.length_replicate, List.length_map, List.length_range, List.length_take, List.length_drop, nums_length, bools_length, vecs_length]; first | done | omega)) [s2, k1, wz, tz, hgz, hZl, hzl, hbB, kU, -shiftV_shl, -shiftV_shr]
      refine w_heads s (fun t => ⟨[(45, .i .i64 b), (44, .i .i64 B), (35, .i .i64 l), (34, .i .i64 D), (15, .i .i64 ((U : Int) + t)), (14, .i .i64 V), (13, .i .i64 b), (12, .i .i64 s), (11, .i .i64 l), (10, .rs 33 0 L.length 1), (7, .sl (nums .i64 Z) Q), (2, .rf 2 0)], [(33, nums .i64 (mixL L.length S F H b t)), (2, [.i .i64 q, .i .i64 n])]⟩) (by simp (disch := first | assumption | omega | (simp only [List.length_cons, List.length_nil, List.length_set, List.length_append, List.length_replicate, List.length_map, List.length_range, List.length_take, List.length_drop, nums_length, bools_length, vecs_length]; first | done | omega)) []) ?_ ?_
      · intro t ht
        obtain ⟨p1, p2, p3⟩ := hpr t ht
        have hl0 := hml t
        have hl1 := hml (t + 1)
        have u1 : IntKind.i64.wrap ((U : Int) + (t : Int) + 1) = (U : Int) + ((t : Int) + 1) := by rw [i64_in _ (by omega)]; omega
        have u2 : IntKind.i64.wrap ((U : Int) + (t : Int) + (s : Int)) = (U : Int) + (t : Int) + (s : Int) := i64_in _ (by omega)
        have u3 : ((U : Int) + (t : Int)).toNat = U + t := by omega
        have u4 : ((U : Int) + (t : Int) + (s : Int)).toNat = U + t + s := by omega
        have u5 : IntKind.i64.wrap ((U : Int) + (s : Int)) = (U : Int) + (s : Int) := i64_in _ (by omega)
        have u6 : (U : Int) + (t : Int) < (U : Int) + (s : Int) := by omega
        have b1 : 0 ≤ (U : Int) + t ∧ (U : Int) + t < (L.length : Int) := by omega
        have b2 : 0 ≤ (U : Int) + t + s ∧ (U : Int) + t + s < (L.length : Int) := by omega
        have g1 := nums_get (k := .i64) (L := mixL L.length S F H b t) (j := U + t) (by omega)
        have g2 := nums_get (k := .i64) (L := mixL L.length S F H b t) (j := U + t + s) (by omega)
        rw [p1] at g1
        rw [p2] at g2
        have m1 := Mul V (ni F (U + t + s)) hq
        have m2 := Add (ni F (U + t)) (V * ni F (U + t + s) % q) hq
        have m3 := Sub (ni F (U + t)) (V * ni F (U + t + s) % q) hq
        generalize ni F (U + t + s) = Y at *
        generalize ni F (U + t) = X at *
        generalize V * Y % q = W at *
        generalize (X + W) % q = R1 at *
        generalize (X - W) % q = R2 at *
        generalize mixL L.length S F H b t = M at *
        generalize mixL L.length S F H b (t + 1) = M' at *
        clear p1 p2 hpr hml
        generalize hT : (t : Int) = T at *
        simp (disch := first | assumption | omega | (simp only [List.length_cons, List.length_nil, List.length_set, List.length_append, List.length_replicate, List.length_map, List.length_range, List.length_take, List.length_drop, nums_length, bools_length, vecs_length]; first | done | omega)) [k1, kU, u1, u2, u3, u4, u5, u6, g1, g2, m1, m2, m3, nums_set, p3, hT, -shiftV_shl, -shiftV_shr]
      · rw [hnx]
        have u5 : IntKind.i64.wrap ((U : Int) + (s : Int)) = (U : Int) + (s : Int) := i64_in _ (by omega)
        generalize hT : (b : Int) = T at *
        simp (disch := first | assumption | omega | (simp only [List.length_cons, List.length_nil, List.length_set, List.length_append, List.length_replicate, List.length_map, List.length_range, List.length_take, List.length_drop, nums_length, bools_length, vecs_length]; first | done | omega)) [k1, kU, u5, wb, hT, -shiftV_shl, -shiftV_shr]
    · rw [hend]
      simp (disch := first | assumption | omega | (simp only [List.length_cons, List.length_nil, List.length_set, List.length_append, List.length_replicate, List.length_map, List.length_range, List.length_take, List.length_drop, nums_length, bools_length, vecs_length]; first | done | omega)) [w1, -shiftV_shl, -shiftV_shr]
  · have hF := layL_len q g (ni L) m D D
    rw [← hmN] at hF
    generalize layL q g (ni L) m D D = F at *
    simp (disch := first | assumption | omega | (simp only [List.length_cons, List.length_nil, List.length_set, List.length_append, List.length_replicate, List.length_map, List.length_range, List.length_take, List.length_drop, nums_length, bools_length, vecs_length]; first | done | omega)) [-shiftV_shl, -shiftV_shr]
end Zab.YtjnomoefbffpoaaGreatDoorB
namespace Zab.YtjnomoefbffpoaaGreatDoorB
open Go
open Go.IntWalk (i64_in)
set_option maxRecDepth 100000
set_option linter.unusedSimpArgs false
set_option linter.unusedVariables false
attribute [-simp] getElem?_pos
def over (q n : Int) : Int := ((2 ^ dep q n : Nat) : Int) ^ (q - 2).toNat % q
end Zab.YtjnomoefbffpoaaGreatDoorB
namespace Zab.YtjnomoefbffpoaaGreatDoorB
open Go
open Go.IntWalk (i64_in)
set_option maxRecDepth 100000
set_option linter.unusedSimpArgs false
set_option linter.unusedVariables false
attribute [-simp] getElem?_pos
noncomputable def partL (q n : Int) (L M : List Int) (p : Nat) : List Int := (List.range (mlen q n)).map fun c => sumTo (fun i => tmz (rt q n ^ (2 * revN (dep q n) p + 1) % q) (fun i => ni L (p * mlen q n + i)) (fun i => ni M (p * mlen q n + i)) (mlen q n) i c) (mlen q n) % q
theorem partL_len (q n : Int) (L M : List Int) (p : Nat) : (partL q n L M p).length = mlen q n := by simp [partL]
noncomputable def timesTo (q n : Int) (L M : List Int) : Nat → List Int
  | 0 => []
  | p + 1 => timesTo q n L M p ++ partL q n L M p
theorem timesTo_len (q n : Int) (L M : List Int) : ∀ p, (timesTo q n L M p).length = p * mlen q n
  | 0 => by simp [timesTo]
  | p + 1 => by rw [timesTo, List.length_append, timesTo_len q n L M p, partL_len, Nat.add_mul, Nat.one_mul]
noncomputable def timesL (q n : Int) (L M : List Int) : List Int := timesTo q n L M (2 ^ dep q n)
set_option maxHeartbeats 8000000 in
theorem nTimes (q n : Int) {x y : AV} {L M : List Int} (hx : IsL .i64 x L) (hy : IsL .i64 y M) (hL : vecBad q n L = 0) (hM : vecBad q n M = 0) : FF tab 79 [(.ag [.i .i64 (q), .i .i64 (n)]), x, y] = some ⟨.tp [.os (nums .i64 (timesL q n L M)) L.length 1, .nl], []⟩ := by
  obtain ⟨hq, hd, hn, hm⟩ := vecBad_zero.1 hL
  obtain ⟨_, _, hn2, hm2⟩ := vecBad_zero.1 hM
  have h1 := rVector q n hx (by have := vecBad_len hL; omega)
  have h2 := rVector q n hy (by have := vecBad_len hM; omega)
  rw [hL, show errV 0 = .nl from rfl] at h1
  rw [hM, show errV 0 = .nl from rfl] at h2
  refine call_by (A := A79) rfl rfl ?_
  have fx := hx.flat
  have fy := hy.flat
  have hR := nRoot hq hd
  obtain ⟨d1, d2, h3, h4, _⟩ := dep_ok hq hd
  have lo := hq.lo
  have hi := hq.hi
  have dlo := hd.lo
  have dhi := hd.hi
  have hmN : n.toNat = mlen q n * 2 ^ dep q n := h3
  have hm0 : 0 < mlen q n := h4
  have hl2 := pow_le d2
  have shD := shl_one (d := dep q n) (by omega)
  have hmn : n.toNat / 2 ^ dep q n = mlen q n := rfl
  have srD := shr_by (a := n.toNat) (d := dep q n) (by omega)
  rw [hmn, Int.toNat_of_nonneg (by omega)] at srD
  have hpl := partL_len q n L M
  have htl := timesTo_len q n L M
  have hts : ∀ p, timesTo q n L M p ++ partL q n L M p = timesTo q n L M (p + 1) := fun p => rfl
  unfold timesL
  have hrow : ∀ p, rowZ q (rt q n ^ (2 * revN (dep q n) p + 1) % q) (fun i => ni L (p * mlen q n + i)) (fun i => ni M (p * mlen q n + i)) (mlen q n) (mlen q n) 0 = partL q n L M p := fun p => rowZ_end _ _ _ _ _
  have hrev : ∀ p : Nat, p < 2 ^ dep q n → FF tab 117 [.i .i64 p, .i .i64 (dep q n)] = some ⟨.i .i64 (revN (dep q n) p), []⟩ := fun p hp => nRev (by omega) (by omega)
  have hpow : ∀ p : Nat, p < 2 ^ dep q n → 2 * revN (dep q n) p + 1 < 1000 ∧ FF tab 116 [.i .i64 (rt q n), .i .i64 ((2 * revN (dep q n) p + 1 : Nat) : Int), .i .i64 q] = some ⟨.i .i64 (rt q n ^ (2 * revN (dep q n) p + 1) % q), []⟩ := fun p hp => by
    have hl := revN_lt p (dep q n)
    have := Pow (rt q n) hq (e := ((2 * revN (dep q n) p + 1 : Nat) : Int)) (by omega) (by omega)
    rw [Int.toNat_natCast] at this
    exact ⟨by omega, this⟩
  have hpt : ∀ p, p < 2 ^ dep q n → p * mlen q n + mlen q n ≤ L.length := fun p hp => by
    have : (p + 1) * mlen q n ≤ 2 ^ dep q n * mlen q n := Nat.mul_le_mul_right _ hp
    rw [Nat.add_mul, Nat.one_mul, Nat.mul_comm (2 ^ dep q n), ← hmN] at this; omega
  generalize hW : (fun p => rt q n ^ (2 * revN (dep q n) p + 1) % q) = Wf at *
  have hWp : ∀ p, rt q n ^ (2 * revN (dep q n) p + 1) % q = Wf p := fun p => by rw [← hW]
  simp only [hWp] at hrow hpow
  generalize timesTo q n L M = TT at *
  generalize partL q n L M = PP at *
  generalize mlen q n = m at *
  generalize rt q n = g at *
  generalize dep q n = D at *
  generalize hQ : 2 ^ D = Q at *
  clear hW hWp
  have hT0 : TT 0 = [] := by
    have := htl 0
    rw [Nat.zero_mul] at this
    exact List.length_eq_zero_iff.1 this
  simp (disch := first | assumption | omega | (simp only [List.length_cons, List.length_nil, List.length_set, List.length_append, List.length_replicate, List.length_map, List.length_range, List.length_take, List.length_drop, nums_length, bools_length, vecs_length]; first | done | omega)) [A79]
  refine w_heads 2 (fun k => ⟨[(26, .i .i64 k), (25, .i .i64 2), (24, .sl [x, y] 2), (3, .rf 3 0), (2, y), (1, x)], [(3, [.i .i64 q, .i .i64 n])]⟩) (by simp (disch := first | assumption | omega | (simp only [List.length_cons, List.length_nil, List.length_set, List.length_append, List.length_replicate, List.length_map, List.length_range, List.length_take, List.length_drop, nums_length, bools_length, vecs_length]; first | done | omega)) []) ?_ ?_
  · intro k hk
    have : k = 0 ∨ k = 1 := by omega
    rcases this with rfl | rfl
    · simp (disch := first | assumption | omega | (simp only [List.length_cons, List.length_nil, List.length_set, List.length_append, List.length_replicate, List.length_map, List.length_range, List.length_take, List.length_drop, nums_length, bools_length, vecs_length]; first | done | omega)) [h1, show IntKind.i64.wrap 1 = 1 from rfl]
    · simp (disch := first | assumption | omega | (simp only [List.length_cons, List.length_nil, List.length_set, List.length_append, List.length_replicate, List.length_map, List.length_range, List.length_take, List.length_drop, nums_length, bools_length, vecs_length]; first | done | omega)) [h2, show IntKind.i64.wrap 2 = 2 from rfl]
  · have zr : zrep [AV.i .i64 0] 0 = [] := rfl
    simp (disch := first | assumption | omega | (simp only [List.length_cons, List.length_nil, List.length_set, List.length_append, List.length_replicate, List.length_map, List.length_range, List.length_take, List.length_drop, nums_length, bools_length, vecs_length]; first | done | omega)) [hR, srD, shD, zr, -shiftV_shl, -shiftV_shr]
    refine w_heads Q (fun p => ⟨[(55, .i .i64 p), (54, .i .i64 Q), (15, .rs 52 0 (p * m) 1), (14, .i .i64 m), (12, .i .i64 D), (11, .i .i64 g), (3, .rf 3 0), (2, y), (1, x)], [(52, nums .i64 (TT p)), (3, [.i .i64 q, .i .i64 n])]⟩) (by rw [hT0]; simp (disch := first | assumption | omega | (simp only [List.length_cons, List.length_nil, List.length_set, List.length_append, List.length_replicate, List.length_map, List.length_range, List.length_take, List.length_drop, nums_length, bools_length, vecs_length]; first | done | omega)) [nums_nil]) ?_ ?_
    · intro p hp
      have wp : IntKind.i64.wrap ((p : Int) + 1) = (p : Int) + 1 := i64_in _ (by omega)
      have hpQ : (p : Int) < (Q : Int) := by omega
      have r1 := hrev p hp
      obtain ⟨r0, r2⟩ := hpow p hp
      have hpm := hpt p hp
      have rw1 : IntKind.i64.wrap (2 * (revN D p : Int)) = 2 * (revN D p : Int) := i64_in _ (by omega)
      have rw2 : IntKind.i64.wrap (2 * (revN D p : Int) + 1) = ((2 * revN D p + 1 : Nat) : Int) := i64_in _ (by omega)
      have hro := hrow p
      have hpp := hpl p
      have htp := htl p
      have htp1 := htl (p + 1)
      have htt := hts p
      have hA : ∀ i, i < m → 0 ≤ ni L (p * m + i) ∧ ni L (p * m + i) < q := fun i hi => mods_at hm (by omega)
      have hz0 := rowZ_zero q (Wf p) (fun i => ni L (p * m + i)) (fun i => ni M (p * m + i)) m
      have hpms : IntKind.i64.wrap ((p : Int) * (m : Int)) = ((p * m : Nat) : Int) := by
        rw [← Int.natCast_mul]; exact i64_in _ (by omega)
      have hpm1 : (p + 1) * m = p * m + m := by rw [Nat.add_mul, Nat.one_mul]
      rw [hpm1] at htp1
      clear hrev hpow hpt hrow hpl htl hts
      generalize TT (p + 1) = T1 at *
      generalize TT p = T0 at *
      generalize PP p = Pp at *
      generalize ((2 * revN D p + 1 : Nat) : Int) = E at *
      generalize revN D p = R at *
      generalize Wf p = w at *
      generalize p * m = U at *
      simp (disch := first | assumption | omega | (simp only [List.length_cons, List.length_nil, List.length_set, List.length_append, List.length_replicate, List.length_map, List.length_range, List.length_take, List.length_drop, nums_length, bools_length, vecs_length]; first | done | omega)) [r1, r2, rw1, rw2, hpQ, -shiftV_shl, -shiftV_shr]
      refine w_heads m (fun i => ⟨[(70, .i .i64 i), (69, .i .i64 m), (55, .i .i64 p), (54, .i .i64 Q), (18, .rs 68 0 m 1), (17, .i .i64 w), (16, .i .i64 p), (15, .rs 52 0 U 1), (14, .i .i64 m), (12, .i .i64 D), (11, .i .i64 g), (3, .rf 3 0), (2, y), (1, x)], [(68, nums .i64 (rowZ q w (fun i => ni L (U + i)) (fun i => ni M (U + i)) m i 0)), (52, nums .i64 T0), (3, [.i .i64 q, .i .i64 n])]⟩) (by rw [hz0]; simp (disch := first | assumption | omega | (simp only [List.length_cons, List.length_nil, List.length_set, List.length_append, List.length_replicate, List.length_map, List.length_range, List.length_take, List.length_drop, nums_length, bools_length, vecs_length]; first | done | omega)) []) ?_ ?_
      · intro i hi'
        have wi : IntKind.i64.wrap ((i : Int) + 1) = (i : Int) + 1 := i64_in _ (by omega)
        have him : (i : Int) < (m : Int) := by omega
        have hnx := rowZ_next q w (fun i => ni L (U + i)) (fun i => ni M (U + i)) hi'
        simp (disch := first | assumption | omega | (simp only [List.length_cons, List.length_nil, List.length_set, List.length_append, List.length_replicate, List.length_map, List.length_range, List.length_take, List.length_drop, nums_length, bools_length, vecs_length]; first | done | omega)) [him, -shiftV_shl, -shiftV_shr]
        refine w_heads m (fun j => ⟨[(74, .i .i64 j), (73, .i .i64 m), (70, .i .i64 i), (69, .i .i64 m), (55, .i .i64 p), (54, .i .i64 Q), (19, .i .i64 i), (18, .rs 68 0 m 1), (17, .i .i64 w), (16, .i .i64 p), (15, .rs 52 0 U 1), (14, .i .i64 m), (12, .i .i64 D), (11, .i .i64 g), (3, .rf 3 0), (2, y), (1, x)], [(68, nums .i64 (rowZ q w (fun i => ni L (U + i)) (fun i => ni M (U + i)) m i j)), (52, nums .i64 T0), (3, [.i .i64 q, .i .i64 n])]⟩) (by simp (disch := first | assumption | omega | (simp only [List.length_cons, List.length_nil, List.length_set, List.length_append, List.length_replicate, List.length_map, List.length_range, List.length_take, List.length_drop, nums_length, bools_length, vecs_length]; first | done | omega)) []) ?_ ?_
        · intro j hj
          have wj : IntKind.i64.wrap ((j : Int) + 1) = (j : Int) + 1 := i64_in _ (by omega)
          have hjm : (j : Int) < (m : Int) := by omega
          have v1 : IntKind.i64.wrap ((U : Int) + (i : Int)) = ((U + i : Nat) : Int) := i64_in _ (by omega)
          have v2 : IntKind.i64.wrap ((U : Int) + (j : Int)) = ((U + j : Nat) : Int) := i64_in _ (by omega)
          have v3 : IntKind.i64.wrap ((i : Int) + (j : Int)) = (i : Int) + (j : Int) := i64_in _ (by omega)
          have ix := ixSV_isL hx (k' := .i64) (j := ((U + i : Nat) : Int)) (by omega) (by omega)
          have iy := ixSV_isL hy (k' := .i64) (j := ((U + j : Nat) : Int)) (by omega) (by omega)
          rw [Int.toNat_natCast] at ix iy
          have gx := nums_get (k := .i64) (L := L) (j := U + i) (by omega)
          have gy := nums_get (k := .i64) (L := M) (j := U + j) (by omega)
          have m1 := Mul (ni L (U + i)) (ni M (U + j)) hq
          have m2 := Mul (ni L (U + i) * ni M (U + j) % q) w hq
          have hij : ((i : Int) + (j : Int)).tmod (m : Int) = (((i + j) % m : Nat) : Int) := by
            rw [Int.tmod_eq_emod_of_nonneg (by omega)]; rfl
          have hm00 : (m : Int) ≠ 0 := by omega
          have hrl := rowZ_len q w (fun i => ni L (U + i)) (fun i => ni M (U + i)) m i j
          have hcm : (i + j) % m < m := Nat.mod_lt _ hm0
          have hcz : 0 ≤ (((i + j) % m : Nat) : Int) ∧ (((i + j) % m : Nat) : Int) < (m : Int) := by omega
          have htc : (((i + j) % m : Nat) : Int).toNat = (i + j) % m := Int.toNat_natCast _
          have gr := nums_get (k := .i64) (L := rowZ q w (fun i => ni L (U + i)) (fun i => ni M (U + i)) m i j) (j := (i + j) % m) (by omega)
          by_cases hc : (m : Int) ≤ (i : Int) + (j : Int)
          · obtain ⟨t1, t2, t3⟩ := tmz_high (w := w) (A := fun i => ni L (U + i)) (B := fun i => ni M (U + i)) hi' hj (by omega)
            have hset := rowZ_set (q := q) (w := w) (A := fun i => ni L (U + i)) (B := fun i => ni M (U + i)) (v := ni L (U + i) * ni M (U + j) % q * w % q) hi' hj (show i + j - m < m by omega) t2 (by
              rw [t3, Int.mul_comm w]
              exact (Eqm.mod _ _).trans ((Eqm.mod _ _).mul Eqm.rfl))
            rw [← t1] at hset
            have m3 := Add (ni (rowZ q w (fun i => ni L (U + i)) (fun i => ni M (U + i)) m i j) ((i + j) % m)) (ni L (U + i) * ni M (U + j) % q * w % q) hq
            generalize ((U + i : Nat) : Int) = Ui at *
            generalize ((U + j : Nat) : Int) = Uj at *
            generalize (((i + j) % m : Nat) : Int) = C' at *
            generalize (i + j) % m = C at *
            generalize (ni (rowZ q w (fun i => ni L (U + i)) (fun i => ni M (U + i)) m i j) C + ni L (U + i) * ni M (U + j) % q * w % q) % q = V3 at *
            generalize ni (rowZ q w (fun i => ni L (U + i)) (fun i => ni M (U + i)) m i j) C = V4 at *
            generalize rowZ q w (fun i => ni L (U + i)) (fun i => ni M (U + i)) m i (j + 1) = M2 at *
            generalize rowZ q w (fun i => ni L (U + i)) (fun i => ni M (U + i)) m i j = M1 at *
            generalize ni L (U + i) * ni M (U + j) % q * w % q = V2 at *
            generalize ni L (U + i) * ni M (U + j) % q = V1 at *
            generalize ni L (U + i) = X at *
            generalize ni M (U + j) = Y at *
            clear t1 t2 t3
            generalize hJ : (j : Int) = J at *
            simp (disch := first | assumption | omega | (simp only [List.length_cons, List.length_nil, List.length_set, List.length_append, List.length_replicate, List.length_map, List.length_range, List.length_take, List.length_drop, nums_length, bools_length, vecs_length]; first | done | omega)) [hjm, hpms, v1, v2, v3, ix, iy, gx, gy, m1, m2, m3, hij, hm00, htc, gr, hc, wj, nums_set, hset, hJ, -shiftV_shl, -shiftV_shr]
          · obtain ⟨t1, t2, t3⟩ := tmz_low (w := w) (A := fun i => ni L (U + i)) (B := fun i => ni M (U + i)) (show i + j < m by omega)
            have hset := rowZ_set (q := q) (w := w) (A := fun i => ni L (U + i)) (B := fun i => ni M (U + i)) (v := ni L (U + i) * ni M (U + j) % q) hi' hj (show i + j < m by omega) t2 (by
              rw [t3]; exact Eqm.mod _ _)
            rw [← t1] at hset
            have m3 := Add (ni (rowZ q w (fun i => ni L (U + i)) (fun i => ni M (U + i)) m i j) ((i + j) % m)) (ni L (U + i) * ni M (U + j) % q) hq
            generalize ((U + i : Nat) : Int) = Ui at *
            generalize ((U + j : Nat) : Int) = Uj at *
            generalize (((i + j) % m : Nat) : Int) = C' at *
            generalize (i + j) % m = C at *
            generalize (ni (rowZ q w (fun i => ni L (U + i)) (fun i => ni M (U + i)) m i j) C + ni L (U + i) * ni M (U + j) % q) % q = V3 at *
            generalize ni (rowZ q w (fun i => ni L (U + i)) (fun i => ni M (U + i)) m i j) C = V4 at *
            generalize rowZ q w (fun i => ni L (U + i)) (fun i => ni M (U + i)) m i (j + 1) = M2 at *
            generalize rowZ q w (fun i => ni L (U + i)) (fun i => ni M (U + i)) m i j = M1 at *
            generalize ni L (U + i) * ni M (U + j) % q = V1 at *
            generalize ni L (U + i) = X at *
            generalize ni M (U + j) = Y at *
            clear t1 t2 t3 m2
            generalize hJ : (j : Int) = J at *
            simp (disch := first | assumption | omega | (simp only [List.length_cons, List.length_nil, List.length_set, List.length_append, List.length_replicate, List.length_map, List.length_range, List.length_take, List.length_drop, nums_length, bools_length, vecs_length]; first | done | omega)) [hjm, hpms, v1, v2, v3, ix, iy, gx, gy, m1, m3, hij, hm00, htc, gr, hc, wj, nums_set, hset, hJ, -shiftV_shl, -shiftV_shr]
        · rw [hnx]
          simp (disch := first | assumption | omega | (simp only [List.length_cons, List.length_nil, List.length_set, List.length_append, List.length_replicate, List.length_map, List.length_range, List.length_take, List.length_drop, nums_length, bools_length, vecs_length]; first | done | omega)) [wi, -shiftV_shl, -shiftV_shr]
      · rw [hro]
        have hna := nums_append .i64 T0 Pp
        rw [htt] at hna
        have l1 : (nums .i64 T0).length = U := by rw [nums_length]; exact htp
        have l2 : (nums .i64 Pp).length = m := by rw [nums_length]; exact hpp
        rw [hpm1]
        generalize nums .i64 T0 = C0 at *
        generalize nums .i64 Pp = C1 at *
        generalize nums .i64 T1 = C2 at *
        have tk : List.take m C1 = C1 := List.take_of_length_le (by omega)
        simp (disch := first | assumption | omega | (simp only [List.length_cons, List.length_nil, List.length_set, List.length_append, List.length_replicate, List.length_map, List.length_range, List.length_take, List.length_drop, nums_length, bools_length, vecs_length]; first | done | omega)) [wp, hna, l1, l2, tk, -shiftV_shl, -shiftV_shr]
    · have hfin : Q * m = L.length := by rw [Nat.mul_comm, ← hmN]; omega
      have l1 : (nums .i64 (TT Q)).length = L.length := by rw [nums_length, htl, hfin]
      rw [hfin]
      generalize nums .i64 (TT Q) = C0 at *
      simp (disch := first | assumption | omega | (simp only [List.length_cons, List.length_nil, List.length_set, List.length_append, List.length_replicate, List.length_map, List.length_range, List.length_take, List.length_drop, nums_length, bools_length, vecs_length]; first | done | omega)) [l1, -shiftV_shl, -shiftV_shr]
end Zab.YtjnomoefbffpoaaGreatDoorB
namespace Zab.YtjnomoefbffpoaaGreatDoorB
open Go
open Go.IntWalk (i64_in)
set_option maxRecDepth 100000
set_option linter.unusedSimpArgs false
set_option linter.unusedVariables false
attribute [-simp] getElem?_pos
theorem fMod (a : Int) {p : Int} (h : Right p) : FF tab 100 [.i .i64 a, .i .i64 p] = some ⟨.i .i64 (a % p), []⟩ := by
  refine call_by (A := A100) rfl rfl ?_
  have lo := h.lo
  have hi := h.hi
  have h0 : p ≠ 0 := by omega
  have h1 := Int.emod_nonneg a h0
  have h2 := Int.emod_lt_of_pos a (show 0 < p by omega)
  have w2 : IntKind.i64.wrap (a % p) = a % p := i64_in _ (by omega)
  rcases tmod_two a (show 0 < p by omega) with ⟨g1, g2⟩ | ⟨g1, g2⟩
  · simp (disch := first | assumption | omega | (simp only [List.length_cons, List.length_nil, List.length_set, List.length_append, List.length_replicate, List.length_map, List.length_range, List.length_take, List.length_drop, nums_length, bools_length, vecs_length]; first | done | omega)) [A100, h0, g2]
  · simp (disch := first | assumption | omega | (simp only [List.length_cons, List.length_nil, List.length_set, List.length_append, List.length_replicate, List.length_map, List.length_range, List.length_take, List.length_drop, nums_length, bools_length, vecs_length]; first | done | omega)) [A100, h0, g2, w2]
theorem fMul {a b p : Int} (h : Right p) (a0 : 0 ≤ a) (a1 : a < p) (b0 : 0 ≤ b) (b1 : b < p) : FF tab 99 [.i .i64 a, .i .i64 b, .i .i64 p] = some ⟨.i .i64 (a * b % p), []⟩ := by
  refine call_by (A := A99) rfl rfl ?_
  have lo := h.lo
  have h0 : p ≠ 0 := by omega
  have hb := prod_bound h a0 a1 b0 b1
  have w : IntKind.i64.wrap (a * b) = a * b := i64_in _ (by omega)
  have e : (a * b).tmod p = a * b % p := Int.tmod_eq_emod_of_nonneg hb.1
  simp (disch := first | assumption | omega | (simp only [List.length_cons, List.length_nil, List.length_set, List.length_append, List.length_replicate, List.length_map, List.length_range, List.length_take, List.length_drop, nums_length, bools_length, vecs_length]; first | done | omega)) [A99, h0, w, e]
end Zab.YtjnomoefbffpoaaGreatDoorB
namespace Zab.YtjnomoefbffpoaaGreatDoorB
open Go
open Go.IntWalk (i64_in)
set_option maxRecDepth 100000
set_option linter.unusedSimpArgs false
set_option linter.unusedVariables false
attribute [-simp] getElem?_pos
theorem fPow (a : Int) {e p : Int} (h : Right p) (he : 0 ≤ e) (he2 : e ≤ 9223372036854775807) : FF tab 127 [.i .i64 a, .i .i64 e, .i .i64 p] = some ⟨.i .i64 (a ^ e.toNat % p), []⟩ := by
  refine call_by (A := A127) rfl rfl ?_
  have lo := h.lo
  have hn : ¬ e < 0 := by omega
  have h1 : (1 : Int).tmod p = 1 := by rw [Int.tmod_eq_emod_of_nonneg (by omega)]; exact Int.emod_eq_of_lt (by omega) (by omega)
  have hp0 : p ≠ 0 := by omega
  simp (disch := first | assumption | omega | (simp only [List.length_cons, List.length_nil, List.length_set, List.length_append, List.length_replicate, List.length_map, List.length_range, List.length_take, List.length_drop, nums_length, bools_length, vecs_length]; first | done | omega)) [A127, hn, h1, hp0, fMod _ h]
  refine w_rounds (I := fun m S => ∃ x out f : Int, S.clean [8, 7, 2, 1] [] = ⟨[(8, .i .i64 x), (7, .i .i64 out), (2, .i .i64 p), (1, .i .i64 f)], []⟩ ∧ 0 ≤ f ∧ f ≤ 9223372036854775807 ∧ m = f.toNat ∧
    0 ≤ out ∧ out < p ∧ 0 ≤ x ∧ x < p ∧ (out * x ^ f.toNat) % p = a ^ e.toNat % p) (m := e.toNat) ?_ ?_
  · rintro m S ⟨x, out, f, hS, f0, f1, rfl, o0, o1, x0, x1, hx⟩
    rw [hS]
    have q1 : f.tmod 2 = f % 2 := Int.tmod_eq_emod_of_nonneg f0
    have q2 : f.tdiv 2 = f / 2 := Int.tdiv_eq_ediv_of_nonneg f0
    have q3 : IntKind.i64.wrap (f / 2) = f / 2 := i64_in _ (by omega)
    have q4 : (f / 2).toNat = f.toNat / 2 := by omega
    have m1 := fMul h o0 o1 x0 x1
    have m2 := fMul h x0 x1 x0 x1
    by_cases hf : 0 < f
    · by_cases hb : f % 2 = 1
      · simp (disch := first | assumption | omega | (simp only [List.length_cons, List.length_nil, List.length_set, List.length_append, List.length_replicate, List.length_map, List.length_range, List.length_take, List.length_drop, nums_length, bools_length, vecs_length]; first | done | omega)) [hf, hb, q1, q2, q3, m1, m2]
        refine ⟨(f / 2).toNat, by omega, _, _, _, ⟨rfl, rfl, rfl⟩, by omega, by omega, rfl, Int.emod_nonneg _ (by omega), Int.emod_lt_of_pos _ (by omega), Int.emod_nonneg _ (by omega), Int.emod_lt_of_pos _ (by omega), ?_⟩
        rw [q4, odd_round _ _ _ _ (by omega), hx]
      · simp (disch := first | assumption | omega | (simp only [List.length_cons, List.length_nil, List.length_set, List.length_append, List.length_replicate, List.length_map, List.length_range, List.length_take, List.length_drop, nums_length, bools_length, vecs_length]; first | done | omega)) [hf, hb, q1, q2, q3, m1, m2]
        refine ⟨(f / 2).toNat, by omega, _, _, _, ⟨rfl, rfl, rfl⟩, by omega, by omega, rfl, o0, o1, Int.emod_nonneg _ (by omega), Int.emod_lt_of_pos _ (by omega), ?_⟩
        rw [q4, even_round _ _ _ _ (by omega), hx]
    · simp (disch := first | assumption | omega | (simp only [List.length_cons, List.length_nil, List.length_set, List.length_append, List.length_replicate, List.length_map, List.length_range, List.length_take, List.length_drop, nums_length, bools_length, vecs_length]; first | done | omega)) [hf]
      have : f = 0 := by omega
      subst this
      rw [← hx]
      simp only [Int.toNat_zero, Int.pow_zero, Int.mul_one]
      exact (Int.emod_eq_of_lt o0 o1).symm
  · refine ⟨a % p, 1, e, ?_, he, he2, rfl, by omega, by omega, Int.emod_nonneg _ (by omega), Int.emod_lt_of_pos _ (by omega), ?_⟩
    · simp []
    · rw [Int.one_mul, pow_mod]
theorem fDepth {q n : Int} (hq : Right q) (hd : Deg n) : FF tab 95 [(.ag [.i .i64 (q), .i .i64 (n)])] = some ⟨.i .i64 (dep q n), []⟩ := by
  rcases hq with rfl | rfl | rfl | rfl | rfl | rfl | rfl <;> rcases hd with rfl | rfl | rfl | rfl | rfl | rfl | rfl <;> exact FF_of (n := 60) (by kernel_rfl)
set_option maxHeartbeats 2000000 in
theorem fRoot {q n : Int} (hq : Right q) (hd : Deg n) : FF tab 126 [(.ag [.i .i64 (q), .i .i64 (n)])] = some ⟨.i .i64 (rt q n), []⟩ := by
  refine call_by (A := A126) rfl rfl ?_
  have hD := fDepth hq hd
  have lo := hq.lo
  have hi := hq.hi
  obtain ⟨d1, d2, _, _, h5, h6, h7, _, _⟩ := dep_ok hq hd
  by_cases c1 : q = 3329 ∧ n = 256
  · obtain ⟨rfl, rfl⟩ := c1
    rw [show rt 3329 256 = 17 from if_pos ⟨rfl, rfl⟩]
    simp (disch := first | assumption | omega | (simp only [List.length_cons, List.length_nil, List.length_set, List.length_append, List.length_replicate, List.length_map, List.length_range, List.length_take, List.length_drop, nums_length, bools_length, vecs_length]; first | done | omega)) [A126]
  · by_cases c2 : q = 8380417 ∧ n = 256
    · obtain ⟨rfl, rfl⟩ := c2
      rw [show rt 8380417 256 = 1753 from by unfold rt; rw [if_neg (by omega), if_pos ⟨rfl, rfl⟩]]
      simp (disch := first | assumption | omega | (simp only [List.length_cons, List.length_nil, List.length_set, List.length_append, List.length_replicate, List.length_map, List.length_range, List.length_take, List.length_drop, nums_length, bools_length, vecs_length]; first | done | omega)) [A126]
    · have hr : rt q n = 2 + leastRt q (dep q n) := by unfold rt; rw [if_neg c1, if_neg c2]
      rw [hr]
      obtain ⟨l1, l2, l3⟩ := leastRt_ok h5 h6
      generalize wit q (dep q n) = w at *
      generalize dep q n = D at *
      have sh := shl_one (d := D) (by omega)
      have wD := u64_small (a := D) (by omega)
      have wq : IntKind.i64.wrap (q - 1) = q - 1 := i64_in _ (by omega)
      have hp : (2 ^ D : Nat) ≤ 2 ^ 8 := pow_le d2
      have hno : ∀ i : Nat, i < leastRt q D → ¬ (2 + (i : Int)) ^ 2 ^ D % q = q - 1 := fun i h => l2 i h
      have hyes : (2 + (leastRt q D : Int)) ^ 2 ^ D % q = q - 1 := l1
      clear l1 l2 hr h5 h6
      generalize leastRt q D = R at *
      generalize 2 ^ D = Q at *
      have hst : ∀ i : Nat, FF tab 127 [.i .i64 (2 + i), .i .i64 (Q : Int), .i .i64 q] = some ⟨.i .i64 ((2 + (i : Int)) ^ Q % q), []⟩ := fun i => by
        have := fPow (2 + (i : Int)) hq (e := (Q : Int)) (by omega) (by omega)
        rwa [Int.toNat_natCast] at this
      by_cases n0 : n = 256
      · have q1 : ¬ q = 3329 := fun h => c1 ⟨h, n0⟩
        have q2 : ¬ q = 8380417 := fun h => c2 ⟨h, n0⟩
        subst n0
        simp (disch := first | assumption | omega | (simp only [List.length_cons, List.length_nil, List.length_set, List.length_append, List.length_replicate, List.length_map, List.length_range, List.length_take, List.length_drop, nums_length, bools_length, vecs_length]; first | done | omega)) [A126, hD, q1, q2, -shiftV_shl, -shiftV_shr]
        refine w_heads R (fun i => ⟨[(4, .i .i64 (2 + i)), (3, .i .i64 D), (1, .rf 1 0)], [(1, [.i .i64 q, .i .i64 256])]⟩) (by simp (disch := first | assumption | omega | (simp only [List.length_cons, List.length_nil, List.length_set, List.length_append, List.length_replicate, List.length_map, List.length_range, List.length_take, List.length_drop, nums_length, bools_length, vecs_length]; first | done | omega)) []) ?_ ?_
        · intro i hi'
          have h1 := hst i
          have h2 := hno i hi'
          have w1 : IntKind.i64.wrap (2 + (i : Int) + 1) = 2 + ((i : Int) + 1) := by rw [i64_in _ (by omega)]; omega
          generalize (2 + (i : Int)) ^ Q % q = V at *
          generalize hT : (i : Int) = I at *
          simp (disch := first | assumption | omega | (simp only [List.length_cons, List.length_nil, List.length_set, List.length_append, List.length_replicate, List.length_map, List.length_range, List.length_take, List.length_drop, nums_length, bools_length, vecs_length]; first | done | omega)) [sh, wD, h1, h2, wq, w1, hT, -shiftV_shl, -shiftV_shr]
        · have h1 := hst R
          rw [hyes] at h1
          generalize (R : Int) = I at *
          simp (disch := first | assumption | omega | (simp only [List.length_cons, List.length_nil, List.length_set, List.length_append, List.length_replicate, List.length_map, List.length_range, List.length_take, List.length_drop, nums_length, bools_length, vecs_length]; first | done | omega)) [sh, wD, h1, wq, -shiftV_shl, -shiftV_shr]
      · simp (disch := first | assumption | omega | (simp only [List.length_cons, List.length_nil, List.length_set, List.length_append, List.length_replicate, List.length_map, List.length_range, List.length_take, List.length_drop, nums_length, bools_length, vecs_length]; first | done | omega)) [A126, hD, n0, -shiftV_shl, -shiftV_shr]
        refine w_heads R (fun i => ⟨[(4, .i .i64 (2 + i)), (3, .i .i64 D), (1, .rf 1 0)], [(1, [.i .i64 q, .i .i64 n])]⟩) (by simp (disch := first | assumption | omega | (simp only [List.length_cons, List.length_nil, List.length_set, List.length_append, List.length_replicate, List.length_map, List.length_range, List.length_take, List.length_drop, nums_length, bools_length, vecs_length]; first | done | omega)) []) ?_ ?_
        · intro i hi'
          have h1 := hst i
          have h2 := hno i hi'
          have w1 : IntKind.i64.wrap (2 + (i : Int) + 1) = 2 + ((i : Int) + 1) := by rw [i64_in _ (by omega)]; omega
          generalize (2 + (i : Int)) ^ Q % q = V at *
          generalize hT : (i : Int) = I at *
          simp (disch := first | assumption | omega | (simp only [List.length_cons, List.length_nil, List.length_set, List.length_append, List.length_replicate, List.length_map, List.length_range, List.length_take, List.length_drop, nums_length, bools_length, vecs_length]; first | done | omega)) [sh, wD, h1, h2, wq, w1, hT, -shiftV_shl, -shiftV_shr]
        · have h1 := hst R
          rw [hyes] at h1
          generalize (R : Int) = I at *
          simp (disch := first | assumption | omega | (simp only [List.length_cons, List.length_nil, List.length_set, List.length_append, List.length_replicate, List.length_map, List.length_range, List.length_take, List.length_drop, nums_length, bools_length, vecs_length]; first | done | omega)) [sh, wD, h1, wq, -shiftV_shl, -shiftV_shr]
theorem fRev {i b : Nat} (hb : b ≤ 20) (hi : i < 2 ^ 40) : FF tab 98 [.i .i64 i, .i .i64 b] = some ⟨.i .i64 (revN b i), []⟩ := by
  refine call_by (A := A98) rfl rfl ?_
  have c1 : ¬ (b : Int) < 0 := by omega
  have c2 : ¬ (20 : Int) < (b : Int) := by omega
  simp (disch := first | assumption | omega | (simp only [List.length_cons, List.length_nil, List.length_set, List.length_append, List.length_replicate, List.length_map, List.length_range, List.length_take, List.length_drop, nums_length, bools_length, vecs_length]; first | done | omega)) [A98, c1, c2, -shiftV_shl, -shiftV_shr]
  refine w_heads b (fun k => ⟨[(6, .i .i64 k), (5, .i .i64 (revN k i)), (1, .i .i64 b), (0, .i .i64 i)], []⟩) (by simp (disch := first | assumption | omega | (simp only [List.length_cons, List.length_nil, List.length_set, List.length_append, List.length_replicate, List.length_map, List.length_range, List.length_take, List.length_drop, nums_length, bools_length, vecs_length]; first | done | omega)) [revN]) ?_ ?_
  · intro k hk
    have w1 : IntKind.i64.wrap ((k : Int) + 1) = (k : Int) + 1 := i64_in _ (by omega)
    have wk := u64_small (a := k) (by omega)
    have hlt := revN_lt i k
    have hp : 2 ^ k ≤ 2 ^ 20 := pow_le (by omega)
    have hdv : i / 2 ^ k ≤ i := Nat.div_le_self _ _
    have a1 := and_one (a := i / 2 ^ k) (by omega)
    have s2 := shr_by (a := i) (d := k) (by omega)
    have e1 : IntKind.i64.wrap (2 * (revN k i : Int)) = 2 * (revN k i : Int) := i64_in _ (by omega)
    have e2 : IntKind.i64.wrap (2 * (revN k i : Int) + ((i / 2 ^ k % 2 : Nat) : Int)) = (revN (k + 1) i : Int) := by rw [i64_in _ (by omega)]; simp only [revN]; omega
    have hkb : (k : Int) < (b : Int) := by omega
    generalize revN (k + 1) i = R' at *
    generalize i / 2 ^ k % 2 = M at *
    generalize i / 2 ^ k = I at *
    generalize revN k i = R at *
    generalize hT : (k : Int) = K at *
    simp (disch := first | assumption | omega | (simp only [List.length_cons, List.length_nil, List.length_set, List.length_append, List.length_replicate, List.length_map, List.length_range, List.length_take, List.length_drop, nums_length, bools_length, vecs_length]; first | done | omega)) [wk, a1, s2, e1, e2, w1, hkb, hT, -shiftV_shl, -shiftV_shr]
  · simp (disch := first | assumption | omega | (simp only [List.length_cons, List.length_nil, List.length_set, List.length_append, List.length_replicate, List.length_map, List.length_range, List.length_take, List.length_drop, nums_length, bools_length, vecs_length]; first | done | omega)) []
noncomputable def powL (q n : Int) : List Int := (List.range (2 * 2 ^ dep q n)).map fun i => rt q n ^ i % q
theorem powL_len (q n : Int) : (powL q n).length = 2 * 2 ^ dep q n := by simp [powL]
theorem powL_ni (q n : Int) {i : Nat} (h : i < 2 * 2 ^ dep q n) : ni (powL q n) i = rt q n ^ i % q := ni_map h
theorem fPowers {q n : Int} (hq : Right q) (hd : Deg n) : FF tab 96 [(.ag [.i .i64 (q), .i .i64 (n)])] = some ⟨.os (nums .i64 (powL q n)) (2 * 2 ^ dep q n) 1, []⟩ := by
  refine call_by (A := A96) rfl rfl ?_
  have hR := fRoot hq hd
  have hD := fDepth hq hd
  have lo := hq.lo
  obtain ⟨d1, d2, _⟩ := dep_ok hq hd
  obtain ⟨_, g0, g1⟩ := rt_isRt hq hd
  unfold powL
  generalize rt q n = g at *
  generalize dep q n = D at *
  have hp : 2 ^ D ≤ 2 ^ 8 := pow_le d2
  have wD := u64_small (a := D) (by omega)
  have sh := shl_by (a := 2) (d := D) (by omega) (by omega)
  generalize hQ : 2 * 2 ^ D = Q at *
  simp (disch := first | assumption | omega | (simp only [List.length_cons, List.length_nil, List.length_set, List.length_append, List.length_replicate, List.length_map, List.length_range, List.length_take, List.length_drop, nums_length, bools_length, vecs_length]; first | done | omega)) [A96, hR, -shiftV_shl, -shiftV_shr]
  refine w_heads Q (fun k => ⟨[(6, .i .i64 k), (5, .rs 5 0 k 1), (4, .i .i64 (g ^ k % q)), (3, .i .i64 g), (1, .rf 1 0)], [(5, nums .i64 ((List.range k).map fun k => g ^ k % q)), (1, [.i .i64 q, .i .i64 n])]⟩) (by
    have : (1 : Int) % q = 1 := Int.emod_eq_of_lt (by omega) (by omega)
    simp (disch := first | assumption | omega | (simp only [List.length_cons, List.length_nil, List.length_set, List.length_append, List.length_replicate, List.length_map, List.length_range, List.length_take, List.length_drop, nums_length, bools_length, vecs_length]; first | done | omega)) [nums_nil, this]) ?_ ?_
  · intro k hk
    have w1 : IntKind.i64.wrap ((k : Int) + 1) = (k : Int) + 1 := i64_in _ (by omega)
    have m1 := fMul hq (Int.emod_nonneg (g ^ k) (show q ≠ 0 by omega)) (Int.emod_lt_of_pos (g ^ k) (show 0 < q by omega)) (show 0 ≤ g by omega) g1
    have e1 : g ^ k % q * g % q = g ^ (k + 1) % q := by rw [Int.pow_succ, Int.mul_emod, Int.emod_emod, ← Int.mul_emod]
    rw [e1] at m1
    have hmp := mapTo_succ (fun k => g ^ k % q) k
    have hml : (nums .i64 ((List.range k).map fun k => g ^ k % q)).length = k := by simp [nums]
    have hsn := nums_snoc .i64 ((List.range k).map fun k => g ^ k % q) (g ^ k % q)
    rw [← hmp] at hsn
    have hlt : (k : Int) < (Q : Int) := by omega
    have shQ : shiftV .shl .i64 2 (D : Int) = some (.i .i64 (Q : Int)) := sh
    generalize g ^ (k + 1) % q = V' at *
    generalize hT : (k : Int) = T at *
    generalize g ^ k % q = V at *
    generalize nums .i64 ((List.range k).map fun k => g ^ k % q) = F at *
    generalize nums .i64 ((List.range (k + 1)).map fun k => g ^ k % q) = F' at *
    clear hmp sh e1
    simp (disch := first | assumption | omega | (simp only [List.length_cons, List.length_nil, List.length_set, List.length_append, List.length_replicate, List.length_map, List.length_range, List.length_take, List.length_drop, nums_length, bools_length, vecs_length]; first | done | omega)) [hD, wD, shQ, m1, w1, hT, hsn, hlt, -shiftV_shl, -shiftV_shr]
  · have hml : (nums .i64 ((List.range Q).map fun k => g ^ k % q)).length = Q := by simp [nums]
    have shQ : shiftV .shl .i64 2 (D : Int) = some (.i .i64 (Q : Int)) := sh
    generalize nums .i64 ((List.range Q).map fun k => g ^ k % q) = F at *
    generalize g ^ Q % q = V at *
    clear sh
    simp (disch := first | assumption | omega | (simp only [List.length_cons, List.length_nil, List.length_set, List.length_append, List.length_replicate, List.length_map, List.length_range, List.length_take, List.length_drop, nums_length, bools_length, vecs_length]; first | done | omega)) [hD, wD, shQ, -shiftV_shl, -shiftV_shr]
end Zab.YtjnomoefbffpoaaGreatDoorB
namespace Zab.YtjnomoefbffpoaaGreatDoorB
open Go
open Go.IntWalk (i64_in)
set_option maxRecDepth 100000
set_option linter.unusedSimpArgs false
set_option linter.unusedVariables false
attribute [-simp] getElem?_pos
theorem expo_last (d p : Nat) : expo d d p = 1 + 2 * revN d p := by simp [expo]
theorem parts_last (m d : Nat) : parts m d d = m := by simp [parts]
theorem turn_mod {q g : Int} {N d m : Nat} (R : NRing q N d m g) (e : Nat) : Eqm q (g ^ (e % (2 * 2 ^ d))) (g ^ e) := by
  have h := R.turn (e % (2 * 2 ^ d)) (e / (2 * 2 ^ d))
  have e1 : e % (2 * 2 ^ d) + 2 ^ d * (2 * (e / (2 * 2 ^ d))) = e := by
    have := Nat.mod_add_div e (2 * 2 ^ d)
    rw [Nat.mul_comm 2 (2 ^ d), Nat.mul_assoc] at this
    rw [Nat.mul_comm 2 (2 ^ d)]
    exact this
  rw [e1] at h
  exact h.symm
theorem pr_bound {q : Int} (hq : Right q) {x y : Int} (x0 : 0 ≤ x) (x1 : x < q) (y0 : 0 ≤ y) (y1 : y < q) : -70231389093889 ≤ x * y ∧ x * y ≤ 70231389093889 := by
  have := prod_bound hq x0 x1 y0 y1
  omega
set_option maxHeartbeats 4000000 in
theorem fTo (q n : Int) {x : AV} {L : List Int} (hx : IsL .i64 x L) (hL : vecBad q n L = 0) : FF tab 85 [(.ag [.i .i64 (q), .i .i64 (n)]), x] = some ⟨.os (nums .i64 (toL q n L)) L.length 1, []⟩ := by
  obtain ⟨hq, hd, hn, hm⟩ := vecBad_zero.1 hL
  have hDp := fDepth hq hd
  have hP := fPowers hq hd
  have hnr := ntt_ring hq hd
  have hwn : ∀ k, k < 2 * 2 ^ dep q n → ni (powL q n) k = rt q n ^ k % q := fun k hk => powL_ni q n hk
  have hwl := powL_len q n
  obtain ⟨d1, d2, h3, h4, _⟩ := dep_ok hq hd
  have lo := hq.lo
  have hi := hq.hi
  have dlo := hd.lo
  have dhi := hd.hi
  have hmN : n.toNat = mlen q n * 2 ^ dep q n := h3
  have hm0 : 0 < mlen q n := h4
  have hl2 := pow_le d2
  have shD := shl_one (d := dep q n) (by omega)
  have wD := u64_small (a := dep q n) (by omega)
  have hmn : n.toNat / 2 ^ dep q n = mlen q n := rfl
  have srD := shr_by (a := n.toNat) (d := dep q n) (by omega)
  rw [hmn, Int.toNat_of_nonneg (by omega)] at srD
  have hrev : ∀ p : Nat, p < 2 ^ dep q n → revN (dep q n) p < 2 ^ dep q n ∧ FF tab 98 [.i .i64 p, .i .i64 (dep q n)] = some ⟨.i .i64 (revN (dep q n) p), []⟩ := fun p hp => ⟨revN_lt _ _, fRev (by omega) (by omega)⟩
  have hN : n.toNat = L.length := by omega
  refine call_by (A := A85) rfl rfl ?_
  have fx := hx.flat
  let val : Nat → Int := fun p => lay (rt q n) (ni L) (mlen q n) (dep q n) (dep q n) (p / mlen q n) (p % mlen q n) % q
  have hto : toL q n L = (List.range (2 ^ dep q n * mlen q n)).map val := by
    unfold toL layL
    rw [Nat.mul_comm]
    simp only [parts_last]
    rfl
  have hval : ∀ p j : Nat, j < mlen q n → val (p * mlen q n + j) = sumTo (fun k => ni L (k * mlen q n + j) * ni (powL q n) (k * (2 * revN (dep q n) p + 1) % (2 * 2 ^ dep q n))) (2 ^ dep q n) % q := fun p j hj => by
    show lay _ _ _ _ _ ((p * mlen q n + j) / mlen q n) ((p * mlen q n + j) % mlen q n) % q = _
    rw [Nat.mul_comm p, Nat.mul_add_div hm0, Nat.div_eq_of_lt hj, Nat.add_zero, Nat.mul_add_mod, Nat.mod_eq_of_lt hj]
    unfold lay
    rw [parts_last, expo_last]
    refine Eqm.sum fun k _ => Eqm.rfl.mul ?_
    have hlt : k * (2 * revN (dep q n) p + 1) % (2 * 2 ^ dep q n) < 2 * 2 ^ dep q n := Nat.mod_lt _ (by have := Nat.two_pow_pos (dep q n); omega)
    rw [hwn _ hlt, Nat.mul_comm k, Nat.add_comm 1]
    exact ((Eqm.mod _ _).trans (turn_mod hnr _)).symm
  rw [hto]
  clear hto
  have hb : ∀ k e j : Nat, k * mlen q n + j < L.length → e < 2 * 2 ^ dep q n → -70231389093889 ≤ ni L (k * mlen q n + j) * ni (powL q n) e ∧ ni L (k * mlen q n + j) * ni (powL q n) e ≤ 70231389093889 := fun k e j h1 h2 => by
    have a := mods_at hm h1
    have b : 0 ≤ ni (powL q n) e ∧ ni (powL q n) e < q := by rw [hwn e h2]; exact ⟨Int.emod_nonneg _ (by omega), Int.emod_lt_of_pos _ (by omega)⟩
    exact pr_bound hq a.1 a.2 b.1 b.2
  clear hwn hnr
  rw [hN] at hmN
  generalize val = V at *
  generalize powL q n = P at *
  generalize mlen q n = m at *
  generalize dep q n = D at *
  generalize hQ : 2 ^ D = Q at *
  have hQ0 : 0 < Q := by rw [← hQ]; exact Nat.two_pow_pos D
  have hPl := nums_length .i64 P
  simp (disch := first | assumption | omega | (simp only [List.length_cons, List.length_nil, List.length_set, List.length_append, List.length_replicate, List.length_map, List.length_range, List.length_take, List.length_drop, nums_length, bools_length, vecs_length]; first | done | omega)) [A85, hDp, hP, srD, wD, -shiftV_shl, -shiftV_shr]
  refine w_heads Q (fun i => ⟨[(9, .i .i64 i), (8, .rs 8 0 (i * m) 1), (7, .sl (nums .i64 P) (2 * Q)), (6, .i .i64 m), (5, .i .i64 D), (2, .rf 2 0), (1, x)], [(8, nums .i64 ((List.range (i * m)).map V)), (2, [.i .i64 q, .i .i64 n])]⟩) (by simp (disch := first | assumption | omega | (simp only [List.length_cons, List.length_nil, List.length_set, List.length_append, List.length_replicate, List.length_map, List.length_range, List.length_take, List.length_drop, nums_length, bools_length, vecs_length]; first | done | omega)) [nums_nil]) ?_ ?_
  · intro i hi'
    obtain ⟨r0, r1⟩ := hrev i hi'
    have wi : IntKind.i64.wrap ((i : Int) + 1) = (i : Int) + 1 := i64_in _ (by omega)
    have hiQ : (i : Int) < (Q : Int) := by omega
    have w1 : IntKind.i64.wrap (2 * (revN D i : Int)) = 2 * (revN D i : Int) := i64_in _ (by omega)
    have w2 : IntKind.i64.wrap (2 * (revN D i : Int) + 1) = ((2 * revN D i + 1 : Nat) : Int) := i64_in _ (by omega)
    have hvi := hval i
    have him : (i + 1) * m = i * m + m := by rw [Nat.add_mul, Nat.one_mul]
    have hiL : i * m + m ≤ L.length := by
      rw [← him, hmN, Nat.mul_comm m]; exact Nat.mul_le_mul_right _ hi'
    have hE : 2 * revN D i + 1 < 1000 := by omega
    clear hval hrev
    rw [him]
    generalize 2 * revN D i + 1 = E at *
    generalize revN D i = R at *
    generalize i * m = U at *
    simp (disch := first | assumption | omega | (simp only [List.length_cons, List.length_nil, List.length_set, List.length_append, List.length_replicate, List.length_map, List.length_range, List.length_take, List.length_drop, nums_length, bools_length, vecs_length]; first | done | omega)) [r1, w1, w2, shD, wD, hiQ, -shiftV_shl, -shiftV_shr]
    refine w_heads m (fun j => ⟨[(11, .i .i64 j), (10, .i .i64 E), (9, .i .i64 i), (8, .rs 8 0 (U + j) 1), (7, .sl (nums .i64 P) (2 * Q)), (6, .i .i64 m), (5, .i .i64 D), (2, .rf 2 0), (1, x)], [(8, nums .i64 ((List.range (U + j)).map V)), (2, [.i .i64 q, .i .i64 n])]⟩) (by simp (disch := first | assumption | omega | (simp only [List.length_cons, List.length_nil, List.length_set, List.length_append, List.length_replicate, List.length_map, List.length_range, List.length_take, List.length_drop, nums_length, bools_length, vecs_length]; first | done | omega)) []) ?_ ?_
    · intro j hj
      have wj : IntKind.i64.wrap ((j : Int) + 1) = (j : Int) + 1 := i64_in _ (by omega)
      have hjm : (j : Int) < (m : Int) := by omega
      have hv := hvi j hj
      have hmod : ∀ k, k * E % (2 * Q) < 2 * Q := fun k => Nat.mod_lt _ (by omega)
      have hkL : ∀ k, k < Q → k * m + j < L.length := fun k hk => by
        have : (k + 1) * m ≤ Q * m := Nat.mul_le_mul_right _ hk
        rw [Nat.add_mul, Nat.one_mul, Nat.mul_comm Q, ← hmN] at this; omega
      have hbk : ∀ k, k < Q → -70231389093889 ≤ ni L (k * m + j) * ni P (k * E % (2 * Q)) ∧ ni L (k * m + j) * ni P (k * E % (2 * Q)) ≤ 70231389093889 := fun k hk => hb k _ j (hkL k hk) (hmod k)
      have hsb : ∀ k, k ≤ Q → -(256 * 70231389093889) ≤ sumTo (fun k => ni L (k * m + j) * ni P (k * E % (2 * Q))) k ∧ sumTo (fun k => ni L (k * m + j) * ni P (k * E % (2 * Q))) k ≤ 256 * 70231389093889 := fun k hk => by
        have h1 := sumTo_bound (f := fun i => if i < Q then ni L (i * m + j) * ni P (i * E % (2 * Q)) else 0) (B := 70231389093889) (by omega) (fun i => by
          split
          · exact hbk i (by assumption)
          · omega) k
        rw [sumTo_congr (g := fun k => ni L (k * m + j) * ni P (k * E % (2 * Q))) fun i hi => if_pos (by omega)] at h1
        have : (k : Int) * 70231389093889 ≤ 256 * 70231389093889 := by omega
        omega
      have hM := fMod (sumTo (fun k => ni L (k * m + j) * ni P (k * E % (2 * Q))) Q) hq
      rw [← hv] at hM
      have hmp := mapTo_succ V (U + j)
      have hml : (nums .i64 ((List.range (U + j)).map V)).length = U + j := by simp [nums]
      have hsn := nums_snoc .i64 ((List.range (U + j)).map V) (V (U + j))
      rw [← hmp] at hsn
      clear hvi hv
      simp (disch := first | assumption | omega | (simp only [List.length_cons, List.length_nil, List.length_set, List.length_append, List.length_replicate, List.length_map, List.length_range, List.length_take, List.length_drop, nums_length, bools_length, vecs_length]; first | done | omega)) [hjm, -shiftV_shl, -shiftV_shr]
      refine w_heads Q (fun k => ⟨[(13, .i .i64 k), (12, .i .i64 (sumTo (fun k => ni L (k * m + j) * ni P (k * E % (2 * Q))) k)), (11, .i .i64 j), (10, .i .i64 E), (9, .i .i64 i), (8, .rs 8 0 (U + j) 1), (7, .sl (nums .i64 P) (2 * Q)), (6, .i .i64 m), (5, .i .i64 D), (2, .rf 2 0), (1, x)], [(8, nums .i64 ((List.range (U + j)).map V)), (2, [.i .i64 q, .i .i64 n])]⟩) (by simp (disch := first | assumption | omega | (simp only [List.length_cons, List.length_nil, List.length_set, List.length_append, List.length_replicate, List.length_map, List.length_range, List.length_take, List.length_drop, nums_length, bools_length, vecs_length]; first | done | omega)) [sumTo]) ?_ ?_
      · intro k hk
        have wk : IntKind.i64.wrap ((k : Int) + 1) = (k : Int) + 1 := i64_in _ (by omega)
        have hkQ : (k : Int) < (Q : Int) := by omega
        have h1 := hkL k hk
        have h2 := hmod k
        have h3 := hbk k hk
        have h4 := hsb k (by omega)
        have h5 := hsb (k + 1) (by omega)
        have hkE : k * E < 256000 := by
          have : k * E ≤ 256 * 1000 := Nat.mul_le_mul (by omega) (by omega)
          have : k * E ≤ 255 * 1000 := Nat.mul_le_mul (by omega) (by omega)
          omega
        have v1 : IntKind.i64.wrap ((k : Int) * (m : Int)) = ((k * m : Nat) : Int) := by rw [← Int.natCast_mul]; exact i64_in _ (by omega)
        have v2 : IntKind.i64.wrap (((k * m : Nat) : Int) + (j : Int)) = ((k * m + j : Nat) : Int) := i64_in _ (by omega)
        have v3 : IntKind.i64.wrap ((k : Int) * (E : Int)) = ((k * E : Nat) : Int) := by rw [← Int.natCast_mul]; exact i64_in _ (by omega)
        have v4 : ((k * E : Nat) : Int).tmod ((2 * Q : Nat) : Int) = ((k * E % (2 * Q) : Nat) : Int) := by rw [Int.tmod_eq_emod_of_nonneg (by omega)]; rfl
        have ix := ixSV_isL hx (k' := .i64) (j := ((k * m + j : Nat) : Int)) (by omega) (by omega)
        rw [Int.toNat_natCast] at ix
        have gx := nums_get (k := .i64) (L := L) (j := k * m + j) (by omega)
        have gp := nums_get (k := .i64) (L := P) (j := k * E % (2 * Q)) (by omega)
        have tp : ((k * E % (2 * Q) : Nat) : Int).toNat = k * E % (2 * Q) := Int.toNat_natCast _
        have bp : 0 ≤ ((k * E % (2 * Q) : Nat) : Int) ∧ ((k * E % (2 * Q) : Nat) : Int) < ((2 * Q : Nat) : Int) := by omega
        have v5 : IntKind.i64.wrap (ni L (k * m + j) * ni P (k * E % (2 * Q))) = ni L (k * m + j) * ni P (k * E % (2 * Q)) := i64_in _ (by omega)
        have es : sumTo (fun k => ni L (k * m + j) * ni P (k * E % (2 * Q))) (k + 1) = sumTo (fun k => ni L (k * m + j) * ni P (k * E % (2 * Q))) k + ni L (k * m + j) * ni P (k * E % (2 * Q)) := rfl
        have v6 : IntKind.i64.wrap (sumTo (fun k => ni L (k * m + j) * ni P (k * E % (2 * Q))) k + ni L (k * m + j) * ni P (k * E % (2 * Q))) = sumTo (fun k => ni L (k * m + j) * ni P (k * E % (2 * Q))) (k + 1) := by rw [← es]; exact i64_in _ (by omega)
        have h2Q : ((2 * Q : Nat) : Int) ≠ 0 := by omega
        clear es hsb hbk hkL hmod hM hmp hsn hml hb h3 h4 h5
        generalize sumTo (fun k => ni L (k * m + j) * ni P (k * E % (2 * Q))) (k + 1) = S1 at *
        generalize sumTo (fun k => ni L (k * m + j) * ni P (k * E % (2 * Q))) k = S0 at *
        generalize ((k * E % (2 * Q) : Nat) : Int) = Wi at *
        generalize k * E % (2 * Q) = Wn at *
        generalize ((k * E : Nat) : Int) = KE at *
        generalize ((k * m + j : Nat) : Int) = Xi at *
        generalize k * m + j = Xn at *
        generalize ni L Xn = X at *
        generalize ni P Wn = Y at *
        generalize ((k * m : Nat) : Int) = KM at *
        generalize hTQ : ((2 * Q : Nat) : Int) = TQ at *
        generalize hT : (k : Int) = T at *
        generalize (nums .i64 ((List.range (U + j)).map V)) = F at *
        have hTQ2 : 2 * (Q : Int) = TQ := by rw [← hTQ]; omega
        simp (disch := first | assumption | omega | (simp only [List.length_cons, List.length_nil, List.length_set, List.length_append, List.length_replicate, List.length_map, List.length_range, List.length_take, List.length_drop, nums_length, bools_length, vecs_length]; first | done | omega)) [shD, wD, hkQ, v1, v2, v3, v4, v5, v6, ix, gx, gp, tp, h2Q, wk, hT, hTQ, hTQ2, -shiftV_shl, -shiftV_shr]
      · have ea : U + (j + 1) = U + j + 1 := by omega
        rw [ea]
        generalize sumTo (fun k => ni L (k * m + j) * ni P (k * E % (2 * Q))) Q = S0 at *
        generalize (nums .i64 ((List.range (U + j)).map V)) = F at *
        generalize (nums .i64 ((List.range (U + j + 1)).map V)) = F' at *
        generalize V (U + j) = Vj at *
        clear hmp hsb hbk hkL hmod hb
        simp (disch := first | assumption | omega | (simp only [List.length_cons, List.length_nil, List.length_set, List.length_append, List.length_replicate, List.length_map, List.length_range, List.length_take, List.length_drop, nums_length, bools_length, vecs_length]; first | done | omega)) [shD, wD, hM, wj, hsn, ea, -shiftV_shl, -shiftV_shr]
    · simp (disch := first | assumption | omega | (simp only [List.length_cons, List.length_nil, List.length_set, List.length_append, List.length_replicate, List.length_map, List.length_range, List.length_take, List.length_drop, nums_length, bools_length, vecs_length]; first | done | omega)) [wi, -shiftV_shl, -shiftV_shr]
  · have hml : (nums .i64 ((List.range (Q * m)).map V)).length = Q * m := by simp [nums]
    have hQm : Q * m = L.length := by rw [hmN, Nat.mul_comm]
    rw [← hQm]
    generalize (nums .i64 ((List.range (Q * m)).map V)) = F at *
    simp (disch := first | assumption | omega | (simp only [List.length_cons, List.length_nil, List.length_set, List.length_append, List.length_replicate, List.length_map, List.length_range, List.length_take, List.length_drop, nums_length, bools_length, vecs_length]; first | done | omega)) [shD, wD, -shiftV_shl, -shiftV_shr]
end Zab.YtjnomoefbffpoaaGreatDoorB
namespace Zab.YtjnomoefbffpoaaGreatDoorB
open Go
open Go.IntWalk (i64_in)
set_option maxRecDepth 100000
set_option linter.unusedSimpArgs false
set_option linter.unusedVariables false
attribute [-simp] getElem?_pos
def hit (N i k : Nat) : Nat := if i ≤ k then k - i else N + k - i
def tm (L M : List Int) (N i k : Nat) : Int := if i ≤ k then ni L i * ni M (k - i) else -(ni L i * ni M (N + k - i))
def row (L M : List Int) (N i j : Nat) : List Int := (List.range N).map fun k => sumTo (fun i => tm L M N i k) i + if hit N i k < j then tm L M N i k else 0
end Zab.YtjnomoefbffpoaaGreatDoorB
namespace Zab.YtjnomoefbffpoaaGreatDoorB
open Go
set_option maxRecDepth 100000
set_option linter.unusedSimpArgs false
set_option linter.unusedVariables false
section
variable {q : Int} {N : Nat} {L M P : List Int}
end
section
variable {q : Int} {N : Nat} {L : List Int}
end
end Zab.YtjnomoefbffpoaaGreatDoorB
namespace Zab.YtjnomoefbffpoaaGreatDoorB
open Go
set_option maxRecDepth 100000
set_option linter.unusedSimpArgs false
set_option linter.unusedVariables false
theorem toL_ni {q n : Int} (hq : Right q) (hd : Deg n) (L : List Int) {p : Nat} (hp : p < n.toNat) : p / mlen q n < 2 ^ dep q n ∧ p % mlen q n < mlen q n ∧ ni (toL q n L) p = lay (rt q n) (ni L) (mlen q n) (dep q n) (dep q n) (p / mlen q n) (p % mlen q n) % q := by
  obtain ⟨_, _, h3, h4, _⟩ := dep_ok hq hd
  have h3' : n.toNat = mlen q n * 2 ^ dep q n := h3
  have h4' : 0 < mlen q n := h4
  have hp' : p < mlen q n * 2 ^ dep q n := by rw [← h3']; exact hp
  refine ⟨(Nat.div_lt_iff_lt_mul h4').2 (by rw [Nat.mul_comm]; exact hp'), Nat.mod_lt _ h4', ?_⟩
  unfold toL layL
  rw [ni_map hp', parts_last]
theorem toL_mods {q n : Int} (hq : Right q) (hd : Deg n) (L : List Int) : Mods q (toL q n L) := mods_step fun j hj => by
  have lo := hq.lo
  rw [toL_len hq hd] at hj
  rw [(toL_ni hq hd L hj).2.2]
  exact ⟨Int.emod_nonneg _ (by omega), Int.emod_lt_of_pos _ (by omega)⟩
theorem vecBad_of {q n : Int} {L : List Int} (hq : Right q) (hd : Deg n) (hn : L.length = n.toNat) (hm : Mods q L) : vecBad q n L = 0 := vecBad_zero.2 ⟨hq, hd, by have := hd.lo; omega, hm⟩
end Zab.YtjnomoefbffpoaaGreatDoorB
namespace Zab.YtjnomoefbffpoaaGreatDoorB
open Go
open Go.IntWalk (i64_in)
set_option maxRecDepth 100000
set_option linter.unusedSimpArgs false
set_option linter.unusedVariables false
attribute [-simp] getElem?_pos
set_option maxHeartbeats 8000000 in
theorem fTimes (q n : Int) {x y : AV} {L M : List Int} (hx : IsL .i64 x L) (hy : IsL .i64 y M) (hL : vecBad q n L = 0) (hM : vecBad q n M = 0) : FF tab 87 [(.ag [.i .i64 (q), .i .i64 (n)]), x, y] = some ⟨.os (nums .i64 (timesL q n L M)) L.length 1, []⟩ := by
  obtain ⟨hq, hd, hn, hm⟩ := vecBad_zero.1 hL
  obtain ⟨_, _, hn2, hm2⟩ := vecBad_zero.1 hM
  refine call_by (A := A87) rfl rfl ?_
  have fx := hx.flat
  have fy := hy.flat
  have hDp := fDepth hq hd
  have hR := fRoot hq hd
  obtain ⟨d1, d2, h3, h4, _⟩ := dep_ok hq hd
  have lo := hq.lo
  have hi := hq.hi
  have dlo := hd.lo
  have dhi := hd.hi
  have hmN : n.toNat = mlen q n * 2 ^ dep q n := h3
  have hm0 : 0 < mlen q n := h4
  have hl2 := pow_le d2
  have shD := shl_one (d := dep q n) (by omega)
  have wD := u64_small (a := dep q n) (by omega)
  have hmn : n.toNat / 2 ^ dep q n = mlen q n := rfl
  have srD := shr_by (a := n.toNat) (d := dep q n) (by omega)
  rw [hmn, Int.toNat_of_nonneg (by omega)] at srD
  have hpl := partL_len q n L M
  have htl := timesTo_len q n L M
  have hts : ∀ p, timesTo q n L M p ++ partL q n L M p = timesTo q n L M (p + 1) := fun p => rfl
  unfold timesL
  have hrow : ∀ p, rowZ q (rt q n ^ (2 * revN (dep q n) p + 1) % q) (fun i => ni L (p * mlen q n + i)) (fun i => ni M (p * mlen q n + i)) (mlen q n) (mlen q n) 0 = partL q n L M p := fun p => rowZ_end _ _ _ _ _
  have hrev : ∀ p : Nat, p < 2 ^ dep q n → FF tab 98 [.i .i64 p, .i .i64 (dep q n)] = some ⟨.i .i64 (revN (dep q n) p), []⟩ := fun p hp => fRev (by omega) (by omega)
  have hpow : ∀ p : Nat, p < 2 ^ dep q n → 2 * revN (dep q n) p + 1 < 1000 ∧ FF tab 127 [.i .i64 (rt q n), .i .i64 ((2 * revN (dep q n) p + 1 : Nat) : Int), .i .i64 q] = some ⟨.i .i64 (rt q n ^ (2 * revN (dep q n) p + 1) % q), []⟩ := fun p hp => by
    have hl := revN_lt p (dep q n)
    have := fPow (rt q n) hq (e := ((2 * revN (dep q n) p + 1 : Nat) : Int)) (by omega) (by omega)
    rw [Int.toNat_natCast] at this
    exact ⟨by omega, this⟩
  have hpt : ∀ p, p < 2 ^ dep q n → p * mlen q n + mlen q n ≤ L.length := fun p hp => by
    have : (p + 1) * mlen q n ≤ 2 ^ dep q n * mlen q n := Nat.mul_le_mul_right _ hp
    rw [Nat.add_mul, Nat.one_mul, Nat.mul_comm (2 ^ dep q n), ← hmN] at this; omega
  have hWb : ∀ p, 0 ≤ rt q n ^ (2 * revN (dep q n) p + 1) % q ∧ rt q n ^ (2 * revN (dep q n) p + 1) % q < q := fun p => ⟨Int.emod_nonneg _ (by omega), Int.emod_lt_of_pos _ (by omega)⟩
  generalize hW : (fun p => rt q n ^ (2 * revN (dep q n) p + 1) % q) = Wf at *
  have hWp : ∀ p, rt q n ^ (2 * revN (dep q n) p + 1) % q = Wf p := fun p => by rw [← hW]
  simp only [hWp] at hrow hpow hWb
  generalize timesTo q n L M = TT at *
  generalize partL q n L M = PP at *
  generalize mlen q n = m at *
  generalize rt q n = g at *
  generalize dep q n = D at *
  generalize hQ : 2 ^ D = Q at *
  clear hW hWp
  have hT0 : TT 0 = [] := by
    have := htl 0
    rw [Nat.zero_mul] at this
    exact List.length_eq_zero_iff.1 this
  simp (disch := first | assumption | omega | (simp only [List.length_cons, List.length_nil, List.length_set, List.length_append, List.length_replicate, List.length_map, List.length_range, List.length_take, List.length_drop, nums_length, bools_length, vecs_length]; first | done | omega)) [A87, hDp, srD, wD, hR, -shiftV_shl, -shiftV_shr]
  refine w_heads Q (fun p => ⟨[(11, .i .i64 p), (10, .rs 10 0 (p * m) 1), (9, .i .i64 g), (8, .i .i64 m), (7, .i .i64 D), (3, .rf 3 0), (2, y), (1, x)], [(10, nums .i64 (TT p)), (3, [.i .i64 q, .i .i64 n])]⟩) (by rw [hT0]; simp (disch := first | assumption | omega | (simp only [List.length_cons, List.length_nil, List.length_set, List.length_append, List.length_replicate, List.length_map, List.length_range, List.length_take, List.length_drop, nums_length, bools_length, vecs_length]; first | done | omega)) [nums_nil]) ?_ ?_
  · intro p hp
    have wp : IntKind.i64.wrap ((p : Int) + 1) = (p : Int) + 1 := i64_in _ (by omega)
    have hpQ : (p : Int) < (Q : Int) := by omega
    have r1 := hrev p hp
    obtain ⟨r0, r2⟩ := hpow p hp
    have hpm := hpt p hp
    have rw1 : IntKind.i64.wrap (2 * (revN D p : Int)) = 2 * (revN D p : Int) := i64_in _ (by omega)
    have rw2 : IntKind.i64.wrap (2 * (revN D p : Int) + 1) = ((2 * revN D p + 1 : Nat) : Int) := i64_in _ (by omega)
    have hro := hrow p
    have hpp := hpl p
    have htp := htl p
    have htp1 := htl (p + 1)
    have htt := hts p
    have hwb := hWb p
    have hz0 := rowZ_zero q (Wf p) (fun i => ni L (p * m + i)) (fun i => ni M (p * m + i)) m
    have hpms : IntKind.i64.wrap ((p : Int) * (m : Int)) = ((p * m : Nat) : Int) := by
      rw [← Int.natCast_mul]; exact i64_in _ (by omega)
    have hpm1 : (p + 1) * m = p * m + m := by rw [Nat.add_mul, Nat.one_mul]
    rw [hpm1] at htp1
    clear hrev hpow hpt hrow hpl htl hts hWb
    generalize TT (p + 1) = T1 at *
    generalize TT p = T0 at *
    generalize PP p = Pp at *
    generalize ((2 * revN D p + 1 : Nat) : Int) = E at *
    generalize revN D p = R at *
    generalize Wf p = w at *
    generalize p * m = U at *
    simp (disch := first | assumption | omega | (simp only [List.length_cons, List.length_nil, List.length_set, List.length_append, List.length_replicate, List.length_map, List.length_range, List.length_take, List.length_drop, nums_length, bools_length, vecs_length]; first | done | omega)) [r1, r2, rw1, rw2, hpQ, wD, shD, -shiftV_shl, -shiftV_shr]
    refine w_heads m (fun i => ⟨[(14, .i .i64 i), (13, .rs 44 0 m 1), (12, .i .i64 w), (11, .i .i64 p), (10, .rs 10 0 U 1), (9, .i .i64 g), (8, .i .i64 m), (7, .i .i64 D), (3, .rf 3 0), (2, y), (1, x)], [(44, nums .i64 (rowZ q w (fun i => ni L (U + i)) (fun i => ni M (U + i)) m i 0)), (10, nums .i64 T0), (3, [.i .i64 q, .i .i64 n])]⟩) (by rw [hz0]; simp (disch := first | assumption | omega | (simp only [List.length_cons, List.length_nil, List.length_set, List.length_append, List.length_replicate, List.length_map, List.length_range, List.length_take, List.length_drop, nums_length, bools_length, vecs_length]; first | done | omega)) []) ?_ ?_
    · intro i hi'
      have wi : IntKind.i64.wrap ((i : Int) + 1) = (i : Int) + 1 := i64_in _ (by omega)
      have him : (i : Int) < (m : Int) := by omega
      have hnx := rowZ_next q w (fun i => ni L (U + i)) (fun i => ni M (U + i)) hi'
      simp (disch := first | assumption | omega | (simp only [List.length_cons, List.length_nil, List.length_set, List.length_append, List.length_replicate, List.length_map, List.length_range, List.length_take, List.length_drop, nums_length, bools_length, vecs_length]; first | done | omega)) [him, -shiftV_shl, -shiftV_shr]
      refine w_heads m (fun j => ⟨[(15, .i .i64 j), (14, .i .i64 i), (13, .rs 44 0 m 1), (12, .i .i64 w), (11, .i .i64 p), (10, .rs 10 0 U 1), (9, .i .i64 g), (8, .i .i64 m), (7, .i .i64 D), (3, .rf 3 0), (2, y), (1, x)], [(44, nums .i64 (rowZ q w (fun i => ni L (U + i)) (fun i => ni M (U + i)) m i j)), (10, nums .i64 T0), (3, [.i .i64 q, .i .i64 n])]⟩) (by simp (disch := first | assumption | omega | (simp only [List.length_cons, List.length_nil, List.length_set, List.length_append, List.length_replicate, List.length_map, List.length_range, List.length_take, List.length_drop, nums_length, bools_length, vecs_length]; first | done | omega)) []) ?_ ?_
      · intro j hj
        have wj : IntKind.i64.wrap ((j : Int) + 1) = (j : Int) + 1 := i64_in _ (by omega)
        have hjm : (j : Int) < (m : Int) := by omega
        have v1 : IntKind.i64.wrap ((U : Int) + (i : Int)) = ((U + i : Nat) : Int) := i64_in _ (by omega)
        have v2 : IntKind.i64.wrap ((U : Int) + (j : Int)) = ((U + j : Nat) : Int) := i64_in _ (by omega)
        have v3 : IntKind.i64.wrap ((i : Int) + (j : Int)) = (i : Int) + (j : Int) := i64_in _ (by omega)
        have ix := ixSV_isL hx (k' := .i64) (j := ((U + i : Nat) : Int)) (by omega) (by omega)
        have iy := ixSV_isL hy (k' := .i64) (j := ((U + j : Nat) : Int)) (by omega) (by omega)
        rw [Int.toNat_natCast] at ix iy
        have gx := nums_get (k := .i64) (L := L) (j := U + i) (by omega)
        have gy := nums_get (k := .i64) (L := M) (j := U + j) (by omega)
        have ma := mods_at hm (j := U + i) (by omega)
        have mb := mods_at hm2 (j := U + j) (by omega)
        have m1 := fMul hq ma.1 ma.2 mb.1 mb.2
        have mo : 0 ≤ ni L (U + i) * ni M (U + j) % q ∧ ni L (U + i) * ni M (U + j) % q < q := ⟨Int.emod_nonneg _ (by omega), Int.emod_lt_of_pos _ (by omega)⟩
        have m2 := fMul hq mo.1 mo.2 hwb.1 hwb.2
        have mo2 : 0 ≤ ni L (U + i) * ni M (U + j) % q * w % q ∧ ni L (U + i) * ni M (U + j) % q * w % q < q := ⟨Int.emod_nonneg _ (by omega), Int.emod_lt_of_pos _ (by omega)⟩
        have hrl := rowZ_len q w (fun i => ni L (U + i)) (fun i => ni M (U + i)) m i j
        have rb : ∀ c, c < m → 0 ≤ ni (rowZ q w (fun i => ni L (U + i)) (fun i => ni M (U + i)) m i j) c ∧ ni (rowZ q w (fun i => ni L (U + i)) (fun i => ni M (U + i)) m i j) c < q := fun c hc => by
          rw [rowZ_at hc]; exact ⟨Int.emod_nonneg _ (by omega), Int.emod_lt_of_pos _ (by omega)⟩
        have hq0 : q ≠ 0 := by omega
        by_cases hc : (m : Int) ≤ (i : Int) + (j : Int)
        · obtain ⟨t1, t2, t3⟩ := tmz_high (w := w) (A := fun i => ni L (U + i)) (B := fun i => ni M (U + i)) hi' hj (by omega)
          have hset := rowZ_set (q := q) (w := w) (A := fun i => ni L (U + i)) (B := fun i => ni M (U + i)) (v := ni L (U + i) * ni M (U + j) % q * w % q) hi' hj (show i + j - m < m by omega) t2 (by
            rw [t3, Int.mul_comm w]
            exact (Eqm.mod _ _).trans ((Eqm.mod _ _).mul Eqm.rfl))
          have rbc := rb (i + j - m) (by omega)
          have gr := nums_get (k := .i64) (L := rowZ q w (fun i => ni L (U + i)) (fun i => ni M (U + i)) m i j) (j := i + j - m) (by omega)
          have a1 : IntKind.i64.wrap (ni (rowZ q w (fun i => ni L (U + i)) (fun i => ni M (U + i)) m i j) (i + j - m) + ni L (U + i) * ni M (U + j) % q * w % q) = ni (rowZ q w (fun i => ni L (U + i)) (fun i => ni M (U + i)) m i j) (i + j - m) + ni L (U + i) * ni M (U + j) % q * w % q := i64_in _ (by omega)
          have a2 : (ni (rowZ q w (fun i => ni L (U + i)) (fun i => ni M (U + i)) m i j) (i + j - m) + ni L (U + i) * ni M (U + j) % q * w % q).tmod q = (ni (rowZ q w (fun i => ni L (U + i)) (fun i => ni M (U + i)) m i j) (i + j - m) + ni L (U + i) * ni M (U + j) % q * w % q) % q := Int.tmod_eq_emod_of_nonneg (by omega)
          have v4 : IntKind.i64.wrap ((i : Int) + (j : Int) - (m : Int)) = ((i + j - m : Nat) : Int) := by rw [i64_in _ (by omega)]; omega
          have v5 : ((i + j - m : Nat) : Int).toNat = i + j - m := Int.toNat_natCast _
          have v6 : 0 ≤ ((i + j - m : Nat) : Int) ∧ ((i + j - m : Nat) : Int) < (m : Int) := by omega
          generalize ((U + i : Nat) : Int) = Ui at *
          generalize ((U + j : Nat) : Int) = Uj at *
          generalize ((i + j - m : Nat) : Int) = C' at *
          generalize i + j - m = C at *
          generalize (ni (rowZ q w (fun i => ni L (U + i)) (fun i => ni M (U + i)) m i j) C + ni L (U + i) * ni M (U + j) % q * w % q) % q = V3 at *
          generalize ni (rowZ q w (fun i => ni L (U + i)) (fun i => ni M (U + i)) m i j) C = V4 at *
          generalize rowZ q w (fun i => ni L (U + i)) (fun i => ni M (U + i)) m i (j + 1) = M2 at *
          generalize rowZ q w (fun i => ni L (U + i)) (fun i => ni M (U + i)) m i j = M1 at *
          generalize ni L (U + i) * ni M (U + j) % q * w % q = V2 at *
          generalize ni L (U + i) * ni M (U + j) % q = V1 at *
          generalize ni L (U + i) = X at *
          generalize ni M (U + j) = Y at *
          clear t1 t2 t3 rb
          generalize hJ : (j : Int) = J at *
          simp (disch := first | assumption | omega | (simp only [List.length_cons, List.length_nil, List.length_set, List.length_append, List.length_replicate, List.length_map, List.length_range, List.length_take, List.length_drop, nums_length, bools_length, vecs_length]; first | done | omega)) [hjm, hpms, v1, v2, v3, v4, v5, ix, iy, gx, gy, m1, m2, a1, a2, hq0, gr, hc, wj, nums_set, hset, hJ, -shiftV_shl, -shiftV_shr]
        · obtain ⟨t1, t2, t3⟩ := tmz_low (w := w) (A := fun i => ni L (U + i)) (B := fun i => ni M (U + i)) (show i + j < m by omega)
          have hset := rowZ_set (q := q) (w := w) (A := fun i => ni L (U + i)) (B := fun i => ni M (U + i)) (v := ni L (U + i) * ni M (U + j) % q) hi' hj (show i + j < m by omega) t2 (by
            rw [t3]; exact Eqm.mod _ _)
          have rbc := rb (i + j) (by omega)
          have gr := nums_get (k := .i64) (L := rowZ q w (fun i => ni L (U + i)) (fun i => ni M (U + i)) m i j) (j := i + j) (by omega)
          have a1 : IntKind.i64.wrap (ni (rowZ q w (fun i => ni L (U + i)) (fun i => ni M (U + i)) m i j) (i + j) + ni L (U + i) * ni M (U + j) % q) = ni (rowZ q w (fun i => ni L (U + i)) (fun i => ni M (U + i)) m i j) (i + j) + ni L (U + i) * ni M (U + j) % q := i64_in _ (by omega)
          have a2 : (ni (rowZ q w (fun i => ni L (U + i)) (fun i => ni M (U + i)) m i j) (i + j) + ni L (U + i) * ni M (U + j) % q).tmod q = (ni (rowZ q w (fun i => ni L (U + i)) (fun i => ni M (U + i)) m i j) (i + j) + ni L (U + i) * ni M (U + j) % q) % q := Int.tmod_eq_emod_of_nonneg (by omega)
          have v4 : ((i : Int) + (j : Int)).toNat = i + j := by omega
          have v6 : 0 ≤ (i : Int) + (j : Int) ∧ (i : Int) + (j : Int) < (m : Int) := by omega
          generalize ((U + i : Nat) : Int) = Ui at *
          generalize ((U + j : Nat) : Int) = Uj at *
          generalize hC : i + j = C at *
          generalize (ni (rowZ q w (fun i => ni L (U + i)) (fun i => ni M (U + i)) m i j) C + ni L (U + i) * ni M (U + j) % q) % q = V3 at *
          generalize ni (rowZ q w (fun i => ni L (U + i)) (fun i => ni M (U + i)) m i j) C = V4 at *
          generalize rowZ q w (fun i => ni L (U + i)) (fun i => ni M (U + i)) m i (j + 1) = M2 at *
          generalize rowZ q w (fun i => ni L (U + i)) (fun i => ni M (U + i)) m i j = M1 at *
          generalize ni L (U + i) * ni M (U + j) % q * w % q = V2 at *
          generalize ni L (U + i) * ni M (U + j) % q = V1 at *
          generalize ni L (U + i) = X at *
          generalize ni M (U + j) = Y at *
          clear t1 t2 t3 m2 rb hC
          generalize hJ : (j : Int) = J at *
          simp (disch := first | assumption | omega | (simp only [List.length_cons, List.length_nil, List.length_set, List.length_append, List.length_replicate, List.length_map, List.length_range, List.length_take, List.length_drop, nums_length, bools_length, vecs_length]; first | done | omega)) [hjm, hpms, v1, v2, v3, v4, ix, iy, gx, gy, m1, a1, a2, hq0, gr, hc, wj, nums_set, hset, hJ, -shiftV_shl, -shiftV_shr]
      · rw [hnx]
        simp (disch := first | assumption | omega | (simp only [List.length_cons, List.length_nil, List.length_set, List.length_append, List.length_replicate, List.length_map, List.length_range, List.length_take, List.length_drop, nums_length, bools_length, vecs_length]; first | done | omega)) [wi, -shiftV_shl, -shiftV_shr]
    · rw [hro]
      have hna := nums_append .i64 T0 Pp
      rw [htt] at hna
      have l1 : (nums .i64 T0).length = U := by rw [nums_length]; exact htp
      have l2 : (nums .i64 Pp).length = m := by rw [nums_length]; exact hpp
      rw [hpm1]
      generalize nums .i64 T0 = C0 at *
      generalize nums .i64 Pp = C1 at *
      generalize nums .i64 T1 = C2 at *
      have tk : List.take m C1 = C1 := List.take_of_length_le (by omega)
      simp (disch := first | assumption | omega | (simp only [List.length_cons, List.length_nil, List.length_set, List.length_append, List.length_replicate, List.length_map, List.length_range, List.length_take, List.length_drop, nums_length, bools_length, vecs_length]; first | done | omega)) [wp, hna, l1, l2, tk, -shiftV_shl, -shiftV_shr]
  · have hfin : Q * m = L.length := by rw [Nat.mul_comm, ← hmN]; omega
    have l1 : (nums .i64 (TT Q)).length = L.length := by rw [nums_length, htl, hfin]
    rw [hfin]
    generalize nums .i64 (TT Q) = C0 at *
    simp (disch := first | assumption | omega | (simp only [List.length_cons, List.length_nil, List.length_set, List.length_append, List.length_replicate, List.length_map, List.length_range, List.length_take, List.length_drop, nums_length, bools_length, vecs_length]; first | done | omega)) [l1, wD, shD, -shiftV_shl, -shiftV_shr]
end Zab.YtjnomoefbffpoaaGreatDoorB
namespace Zab.YtjnomoefbffpoaaGreatDoorB
open Go
open Go.IntWalk (i64_in)
set_option maxRecDepth 100000
set_option linter.unusedSimpArgs false
set_option linter.unusedVariables false
attribute [-simp] getElem?_pos
theorem fAdd (q n : Int) {x y : AV} {L M : List Int} (hx : IsL .i64 x L) (hy : IsL .i64 y M) (hL : vecBad q n L = 0) (hM : vecBad q n M = 0) : FF tab 46 [(.ag [.i .i64 (q), .i .i64 (n)]), x, y] = some ⟨.os (nums .i64 (zipTo (fun a b => (a + b) % q) L M)) L.length 1, []⟩ := by
  refine call_by (A := A46) rfl rfl ?_
  obtain ⟨hq, hd, hn, hm⟩ := vecBad_zero.1 hL
  obtain ⟨_, _, hn2, hm2⟩ := vecBad_zero.1 hM
  have lo := hq.lo
  have hi := hq.hi
  have dhi := hd.hi
  have fx := hx.flat
  have fy := hy.flat
  let g : Nat → Int := fun j => (fun a b => (a + b) % q) (ni L j) (ni M j)
  have hzip : zipTo (fun a b => (a + b) % q) L M = (List.range L.length).map g := rfl
  rw [hzip]
  simp (disch := first | assumption | omega | (simp only [List.length_cons, List.length_nil, List.length_set, List.length_append, List.length_replicate, List.length_map, List.length_range, List.length_take, List.length_drop, nums_length, bools_length, vecs_length]; first | done | omega)) [A46]
  refine w_heads L.length (fun k => ⟨[(8, .i .i64 k), (7, .rs 7 0 k 1), (3, .rf 3 0), (2, y), (1, x)], [(7, nums .i64 ((List.range k).map g)), (3, [.i .i64 q, .i .i64 n])]⟩) (by simp (disch := first | assumption | omega | (simp only [List.length_cons, List.length_nil, List.length_set, List.length_append, List.length_replicate, List.length_map, List.length_range, List.length_take, List.length_drop, nums_length, bools_length, vecs_length]; first | done | omega)) [nums_nil]) ?_ ?_
  · intro k hk
    have w1 : IntKind.i64.wrap ((k : Int) + 1) = (k : Int) + 1 := i64_in _ (by omega)
    have hkn : (k : Int).toNat = k := Int.toNat_natCast _
    have hix := ixSV_isL hx (k' := .i64) (j := (k : Int)) (by omega) (by omega)
    have hiy := ixSV_isL hy (k' := .i64) (j := (k : Int)) (by omega) (by omega)
    rw [hkn] at hix hiy
    have hgx := nums_get (k := .i64) hk
    have hgy := nums_get (k := .i64) (L := M) (j := k) (by omega)
    have a := mods_at hm hk
    have b := mods_at hm2 (j := k) (by omega)
    have w2 : IntKind.i64.wrap (ni L k + ni M k) = ni L k + ni M k := i64_in _ (by omega)
    have te : (ni L k + ni M k).tmod q = (ni L k + ni M k) % q := Int.tmod_eq_emod_of_nonneg (by omega)
    have hmp := mapTo_succ g k
    have hml : (nums .i64 ((List.range k).map g)).length = k := by simp [nums]
    have hsn := nums_snoc .i64 ((List.range k).map g) (g k)
    rw [← hmp] at hsn
    have hgk : g k = (ni L k + ni M k) % q := rfl
    rw [hgk] at hsn
    have hlt : (k : Int) < n := by omega
    have hq0 : q ≠ 0 := by omega
    generalize hT : (k : Int) = T at *
    generalize (ni L k + ni M k) % q = V' at *
    generalize nums .i64 ((List.range k).map g) = F at *
    generalize nums .i64 ((List.range (k + 1)).map g) = F' at *
    clear hgk hmp
    simp (disch := first | assumption | omega | (simp only [List.length_cons, List.length_nil, List.length_set, List.length_append, List.length_replicate, List.length_map, List.length_range, List.length_take, List.length_drop, nums_length, bools_length, vecs_length]; first | done | omega)) [hix, hiy, hgx, hgy, w2, te, w1, hT, hsn, hlt, hq0]
  · have hml : (nums .i64 ((List.range L.length).map g)).length = L.length := by simp [nums]
    generalize nums .i64 ((List.range L.length).map g) = D at *
    simp (disch := first | assumption | omega | (simp only [List.length_cons, List.length_nil, List.length_set, List.length_append, List.length_replicate, List.length_map, List.length_range, List.length_take, List.length_drop, nums_length, bools_length, vecs_length]; first | done | omega)) [hn]
end Zab.YtjnomoefbffpoaaGreatDoorB
namespace Zab.YtjnomoefbffpoaaGreatDoorB
open Go
open Go.IntWalk (i64_in)
set_option maxRecDepth 100000
set_option linter.unusedSimpArgs false
set_option linter.unusedVariables false
attribute [-simp] getElem?_pos
attribute [local simp] sees_nil sees_rf sees_i sees_sl sees_z sees_rs sees_fl
def five (a b c d e : Int) : List AV := [.i .i64 a, .i .i64 b, .i .i64 c, .i .i64 d, .i .i64 e]
def kset (n : Nat) : List AV := match n with | 0 => five 2 3 2 10 4 | 1 => five 3 2 2 10 4 | _ => five 4 2 2 11 5
def ksets : List AV := five 2 3 2 10 4 ++ (five 3 2 2 10 4 ++ five 4 2 2 11 5)
theorem first10 : FF tab 7 [] = some ⟨.b true, []⟩ := FF_of (n := 60) (by kernel_rfl)
theorem pSets : FF tab 12 [] = some ⟨.sl ksets 3, []⟩ := FF_of (n := 60) (by kernel_rfl)
theorem dSets : FF tab 13 [] = some ⟨.sl ksets 3, []⟩ := FF_of (n := 60) (by kernel_rfl)
theorem pOf0 : FF tab 49 [.i .i64 0] = some ⟨.tp [.ag (five 2 3 2 10 4), .b true], []⟩ := FF_of (n := 60) (by kernel_rfl)
theorem pOf1 : FF tab 49 [.i .i64 1] = some ⟨.tp [.ag (five 3 2 2 10 4), .b true], []⟩ := FF_of (n := 60) (by kernel_rfl)
theorem pOf2 : FF tab 49 [.i .i64 2] = some ⟨.tp [.ag (five 4 2 2 11 5), .b true], []⟩ := FF_of (n := 60) (by kernel_rfl)
theorem pOfI {n : Nat} (h : n < 3) : FF tab 49 [.i .i64 n] = some ⟨.tp [.ag (kset n), .b true], []⟩ := by
  have : n = 0 ∨ n = 1 ∨ n = 2 := by omega
  rcases this with rfl | rfl | rfl
  · exact pOf0
  · exact pOf1
  · exact pOf2
theorem pOfN {s : Int} (h : s < 0 ∨ 3 ≤ s) : FF tab 49 [.i .i64 s] = some ⟨.tp [.ag (five 0 0 0 0 0), .b false], []⟩ := by
  refine call_by (A := A49) rfl rfl ?_
  by_cases h0 : s < 0
  · simp (disch := first | assumption | omega | (simp only [List.length_cons, List.length_nil, List.length_set, List.length_append, List.length_replicate, List.length_map, List.length_range, List.length_take, List.length_drop, nums_length, bools_length, vecs_length]; first | done | omega)) [A49, pSets, h0, five, ksets]
  · have h3 : 3 ≤ s := by omega
    simp (disch := first | assumption | omega | (simp only [List.length_cons, List.length_nil, List.length_set, List.length_append, List.length_replicate, List.length_map, List.length_range, List.length_take, List.length_drop, nums_length, bools_length, vecs_length]; first | done | omega)) [A49, pSets, h0, h3, five, ksets]
theorem pSz0 : FF tab 10 [.i .i64 0] = some ⟨.tp [.i .i64 800, .i .i64 1632, .i .i64 768], []⟩ := FF_of (n := 60) (by kernel_rfl)
theorem pSz1 : FF tab 10 [.i .i64 1] = some ⟨.tp [.i .i64 1184, .i .i64 2400, .i .i64 1088], []⟩ := FF_of (n := 60) (by kernel_rfl)
theorem pSz2 : FF tab 10 [.i .i64 2] = some ⟨.tp [.i .i64 1568, .i .i64 3168, .i .i64 1568], []⟩ := FF_of (n := 60) (by kernel_rfl)
theorem dSz0 : FF tab 11 [.i .i64 0] = some ⟨.tp [.i .i64 800, .i .i64 1632, .i .i64 768], []⟩ := FF_of (n := 60) (by kernel_rfl)
theorem dSz1 : FF tab 11 [.i .i64 1] = some ⟨.tp [.i .i64 1184, .i .i64 2400, .i .i64 1088], []⟩ := FF_of (n := 60) (by kernel_rfl)
theorem dSz2 : FF tab 11 [.i .i64 2] = some ⟨.tp [.i .i64 1568, .i .i64 3168, .i .i64 1568], []⟩ := FF_of (n := 60) (by kernel_rfl)
theorem pSzN {s : Int} (h : s < 0 ∨ 3 ≤ s) : FF tab 10 [.i .i64 s] = some ⟨.tp [.i .i64 0, .i .i64 0, .i .i64 0], []⟩ := by
  refine call_by (A := A10) rfl rfl ?_
  have ho := pOfN h
  simp (disch := first | assumption | omega | (simp only [List.length_cons, List.length_nil, List.length_set, List.length_append, List.length_replicate, List.length_map, List.length_range, List.length_take, List.length_drop, nums_length, bools_length, vecs_length]; first | done | omega)) [A10, ho, five]
theorem dSzN {s : Int} (h : s < 0 ∨ 3 ≤ s) : FF tab 11 [.i .i64 s] = some ⟨.tp [.i .i64 0, .i .i64 0, .i .i64 0], []⟩ := by
  refine call_by (A := A11) rfl rfl ?_
  by_cases h0 : s < 0
  · simp (disch := first | assumption | omega | (simp only [List.length_cons, List.length_nil, List.length_set, List.length_append, List.length_replicate, List.length_map, List.length_range, List.length_take, List.length_drop, nums_length, bools_length, vecs_length]; first | done | omega)) [A11, h0]
  · have h3 : 2 < s := by omega
    simp (disch := first | assumption | omega | (simp only [List.length_cons, List.length_nil, List.length_set, List.length_append, List.length_replicate, List.length_map, List.length_range, List.length_take, List.length_drop, nums_length, bools_length, vecs_length]; first | done | omega)) [A11, h0, h3]
theorem ksizes (s : Int) : ∃ a b c : Int, FF tab 10 [.i .i64 s] = some ⟨.tp [.i .i64 a, .i .i64 b, .i .i64 c], []⟩ ∧ FF tab 11 [.i .i64 s] = some ⟨.tp [.i .i64 a, .i .i64 b, .i .i64 c], []⟩ := by
  by_cases h : s < 0 ∨ 3 ≤ s
  · exact ⟨_, _, _, pSzN h, dSzN h⟩
  · have : s = 0 ∨ s = 1 ∨ s = 2 := by omega
    rcases this with rfl | rfl | rfl
    · exact ⟨_, _, _, pSz0, dSz0⟩
    · exact ⟨_, _, _, pSz1, dSz1⟩
    · exact ⟨_, _, _, pSz2, dSz2⟩
theorem pRings : FF tab 73 [] = some ⟨(.ag [.i .i64 (3329), .i .i64 (256)]), []⟩ := FF_of (n := 60) (by kernel_rfl)
theorem dRing : FF tab 40 [] = some ⟨(.ag [.i .i64 (3329), .i .i64 (256)]), []⟩ := FF_of (n := 60) (by kernel_rfl)
theorem pLens (a b c d e : Int) : FF tab 29 [.ag (five a b c d e)] = some ⟨.sl [.i .i64 32, .i .i64 32] 2, []⟩ := by
  refine call_by (A := A29) rfl rfl ?_
  simp (disch := first | assumption | omega | (simp only [List.length_cons, List.length_nil, List.length_set, List.length_append, List.length_replicate, List.length_map, List.length_range, List.length_take, List.length_drop, nums_length, bools_length, vecs_length]; first | done | omega)) [A29, five]
theorem kset_is (n : Nat) : ∃ a b c d e, kset n = five a b c d e := by
  match n with
  | 0 => exact ⟨_, _, _, _, _, rfl⟩
  | 1 => exact ⟨_, _, _, _, _, rfl⟩
  | n + 2 => exact ⟨_, _, _, _, _, rfl⟩
theorem pAskN {s : Int} (h : s < 0 ∨ 3 ≤ s) (x y : AV) (fx : x.flat = true) (fy : y.flat = true) : FF tab 28 [.i .i64 s, .fn 29 [], .sl [x, y] 2] = some ⟨.tp [.ag (five 0 0 0 0 0), .er 1], []⟩ := by
  refine call_by (A := A28) rfl rfl ?_
  have ho := pOfN h
  simp (disch := first | assumption | omega | (simp only [List.length_cons, List.length_nil, List.length_set, List.length_append, List.length_replicate, List.length_map, List.length_range, List.length_take, List.length_drop, nums_length, bools_length, vecs_length]; first | done | omega)) [A28, ho, five]
set_option maxHeartbeats 4000000 in
theorem pAsk {n : Nat} (h : n < 3) {x y : AV} {L M : List Int} (hx : IsL .u8 x L) (hy : IsL .u8 y M) :
    FF tab 28 [.i .i64 n, .fn 29 [], .sl [x, y] 2] = some ⟨if L.length = 32 ∧ M.length = 32 then .tp [.ag (kset n), .nl] else .tp [.ag (five 0 0 0 0 0), .er 2], []⟩ := by
  refine call_by (A := A28) rfl rfl ?_
  have ho := pOfI h
  have fx := hx.flat
  have fy := hy.flat
  have lx := lenV_isL hx
  have ly := lenV_isL hy
  obtain ⟨a, b, c, d, e, hk⟩ := kset_is n
  rw [hk] at ho ⊢
  have hl := pLens a b c d e
  unfold five at ho hl
  simp (disch := first | assumption | omega | (simp only [List.length_cons, List.length_nil, List.length_set, List.length_append, List.length_replicate, List.length_map, List.length_range, List.length_take, List.length_drop, nums_length, bools_length, vecs_length]; first | done | omega)) [A28, ho, hl, five]
  by_cases h1 : (L.length : Int) = 32
  · by_cases h2 : (M.length : Int) = 32
    · rw [if_pos (by omega)]
      refine w_heads 2 (fun k => ⟨[(25, .i .i64 (k : Int)), (24, .i .i64 2), (23, .sl [.i .i64 32, .i .i64 32] 2), (8, .rf 8 0), (6, .rf 6 0), (2, .sl [x, y] 2)], [(8, [.i .i64 a, .i .i64 b, .i .i64 c, .i .i64 d, .i .i64 e]), (6, [.i .i64 0, .i .i64 0, .i .i64 0, .i .i64 0, .i .i64 0])]⟩) (by simp (disch := first | assumption | omega | (simp only [List.length_cons, List.length_nil, List.length_set, List.length_append, List.length_replicate, List.length_map, List.length_range, List.length_take, List.length_drop, nums_length, bools_length, vecs_length]; first | done | omega)) []) ?_ ?_
      · intro k hk
        have : k = 0 ∨ k = 1 := by omega
        rcases this with rfl | rfl
        · simp (disch := first | assumption | omega | (simp only [List.length_cons, List.length_nil, List.length_set, List.length_append, List.length_replicate, List.length_map, List.length_range, List.length_take, List.length_drop, nums_length, bools_length, vecs_length]; first | done | omega)) [lx, h1, show IntKind.i64.wrap 1 = 1 from rfl, show IntKind.i64.wrap 2 = 2 from rfl]
        · simp (disch := first | assumption | omega | (simp only [List.length_cons, List.length_nil, List.length_set, List.length_append, List.length_replicate, List.length_map, List.length_range, List.length_take, List.length_drop, nums_length, bools_length, vecs_length]; first | done | omega)) [ly, h2, show IntKind.i64.wrap 1 = 1 from rfl, show IntKind.i64.wrap 2 = 2 from rfl]
      · simp (disch := first | assumption | omega | (simp only [List.length_cons, List.length_nil, List.length_set, List.length_append, List.length_replicate, List.length_map, List.length_range, List.length_take, List.length_drop, nums_length, bools_length, vecs_length]; first | done | omega)) []
    · rw [if_neg (by omega)]
      refine w_heads 1 (fun k => ⟨[(25, .i .i64 (k : Int)), (24, .i .i64 2), (23, .sl [.i .i64 32, .i .i64 32] 2), (8, .rf 8 0), (6, .rf 6 0), (2, .sl [x, y] 2)], [(8, [.i .i64 a, .i .i64 b, .i .i64 c, .i .i64 d, .i .i64 e]), (6, [.i .i64 0, .i .i64 0, .i .i64 0, .i .i64 0, .i .i64 0])]⟩) (by simp (disch := first | assumption | omega | (simp only [List.length_cons, List.length_nil, List.length_set, List.length_append, List.length_replicate, List.length_map, List.length_range, List.length_take, List.length_drop, nums_length, bools_length, vecs_length]; first | done | omega)) []) ?_ ?_
      · intro k hk
        have : k = 0 := by omega
        subst this
        simp (disch := first | assumption | omega | (simp only [List.length_cons, List.length_nil, List.length_set, List.length_append, List.length_replicate, List.length_map, List.length_range, List.length_take, List.length_drop, nums_length, bools_length, vecs_length]; first | done | omega)) [lx, h1, show IntKind.i64.wrap 1 = 1 from rfl]
      · simp (disch := first | assumption | omega | (simp only [List.length_cons, List.length_nil, List.length_set, List.length_append, List.length_replicate, List.length_map, List.length_range, List.length_take, List.length_drop, nums_length, bools_length, vecs_length]; first | done | omega)) [ly, h2]
  · rw [if_neg (by omega)]
    refine w_heads 0 (fun k => ⟨[(25, .i .i64 (k : Int)), (24, .i .i64 2), (23, .sl [.i .i64 32, .i .i64 32] 2), (8, .rf 8 0), (6, .rf 6 0), (2, .sl [x, y] 2)], [(8, [.i .i64 a, .i .i64 b, .i .i64 c, .i .i64 d, .i .i64 e]), (6, [.i .i64 0, .i .i64 0, .i .i64 0, .i .i64 0, .i .i64 0])]⟩) (by simp (disch := first | assumption | omega | (simp only [List.length_cons, List.length_nil, List.length_set, List.length_append, List.length_replicate, List.length_map, List.length_range, List.length_take, List.length_drop, nums_length, bools_length, vecs_length]; first | done | omega)) []) (fun k hk => by omega) ?_
    simp (disch := first | assumption | omega | (simp only [List.length_cons, List.length_nil, List.length_set, List.length_append, List.length_replicate, List.length_map, List.length_range, List.length_take, List.length_drop, nums_length, bools_length, vecs_length]; first | done | omega)) [lx, h1]
theorem wOk : FF tab 74 [.op [.nl], .nl] = some ⟨.tp [], [[.nl]]⟩ := FF_of (n := 60) (by kernel_rfl)
theorem right_q : Right 3329 := by unfold Right; omega
theorem deg_n : Deg 256 := by unfold Deg; omega
structure Vec (L : List Int) : Prop where
  len : L.length = 256
  mods : Mods 3329 L
theorem Vec.bad {L : List Int} (h : Vec L) : vecBad 3329 256 L = 0 := vecBad_of right_q deg_n (by rw [h.len]; rfl) h.mods
theorem Vec.to (L : List Int) : Vec (toL 3329 256 L) := ⟨toL_len right_q deg_n L, toL_mods right_q deg_n L⟩
theorem partL_mods {q n : Int} (hq : Right q) (L M : List Int) (p : Nat) : Mods q (partL q n L M p) := by
  have lo := hq.lo
  intro a ha
  obtain ⟨k, _, rfl⟩ := List.mem_map.1 ha
  exact ⟨Int.emod_nonneg _ (by omega), Int.emod_lt_of_pos _ (by omega)⟩
theorem timesTo_mods {q n : Int} (hq : Right q) (L M : List Int) : ∀ p, Mods q (timesTo q n L M p)
  | 0 => fun a ha => by cases ha
  | p + 1 => fun a ha => by
    rcases List.mem_append.1 ha with ha | ha
    · exact timesTo_mods hq L M p a ha
    · exact partL_mods hq L M p a ha
theorem Vec.times (L M : List Int) : Vec (timesL 3329 256 L M) := ⟨by
  unfold timesL
  rw [timesTo_len]
  obtain ⟨_, _, h3, _⟩ := dep_ok right_q deg_n
  have h3' : (256 : Int).toNat = mlen 3329 256 * 2 ^ dep 3329 256 := h3
  rw [Nat.mul_comm, ← h3']; rfl, timesTo_mods right_q L M _⟩
def addV (L M : List Int) : List Int := zipTo (fun a b => (a + b) % 3329) L M
theorem Vec.add {L : List Int} (h : L.length = 256) (M : List Int) : Vec (addV L M) := ⟨by unfold addV; rw [zipTo_len, h], mods_step fun j hj => by
  unfold addV at hj ⊢
  rw [zipTo_len] at hj
  rw [zipTo_ni _ L M hj]
  omega⟩
theorem Vec.zero : Vec (List.replicate 256 0) := ⟨List.length_replicate, fun a ha => by rw [List.eq_of_mem_replicate ha]; omega⟩
def prfL (e : Nat) (S : List Int) (n : Int) : List Int := outL 136 (padS 136 31 (takeL 136 (zL 25, 0) (S ++ [n]))) (64 * e)
def smL (e : Nat) (S : List Int) (n : Int) : List Int := (List.range 256).map (Zab.cen (val (prfL e S n)) e)
theorem Vec.sm {e : Nat} (he : e ≤ 3) (S : List Int) (n : Int) : Vec (smL e S n) := ⟨by simp [smL], fun a ha => by
  obtain ⟨k, _, rfl⟩ := List.mem_map.1 ha
  unfold Zab.cen
  omega⟩
theorem prfL_len (e : Nat) (S : List Int) (n : Int) : (prfL e S n).length = 64 * e := by unfold prfL; rw [outL_len]
theorem outL_inn (R : Nat) (S : List Ln × Nat) (n : Nat) : ∀ y ∈ outL R S n, inK .u8 y := by
  intro y hy
  obtain ⟨k, _, rfl⟩ := List.mem_map.1 hy
  have := outB_in (outS R (nextN R S k))
  exact ⟨this.1, by show _ ≤ (255 : Int); omega⟩
theorem prfL_in (e : Nat) (S : List Int) (n : Int) : ∀ y ∈ prfL e S n, inK .u8 y := by unfold prfL; exact outL_inn _ _ _
theorem wTo {x : AV} {L : List Int} (hx : IsL .i64 x L) (hL : Vec L) : FF tab 31 [.op [.nl], x] = some ⟨.sl (nums .i64 (toL 3329 256 L)) 256, [[.nl]]⟩ := by
  refine call_by (A := A31) rfl rfl ?_
  have fx := hx.flat
  have h := nTo 3329 256 hx hL.bad
  rw [hL.len] at h
  have lT := (Vec.to L).len
  generalize toL 3329 256 L = T at *
  have hr := pRings
  have hk := wOk
  simp (disch := first | assumption | omega | (simp only [List.length_cons, List.length_nil, List.length_set, List.length_append, List.length_replicate, List.length_map, List.length_range, List.length_take, List.length_drop, nums_length, bools_length, vecs_length]; first | done | omega)) [A31, hr, h, hk]
theorem wAdd {x y : AV} {L M : List Int} (hx : IsL .i64 x L) (hy : IsL .i64 y M) (hL : Vec L) (hM : Vec M) : FF tab 35 [.op [.nl], x, y] = some ⟨.sl (nums .i64 (addV L M)) 256, [[.nl]]⟩ := by
  refine call_by (A := A35) rfl rfl ?_
  have fx := hx.flat
  have fy := hy.flat
  have h := rAdd 3329 256 hx hy hL.bad hM.bad
  have lT := (Vec.add hL.len M).len
  rw [show zipTo (fun a b => (a + b) % 3329) L M = addV L M from rfl] at h
  generalize addV L M = T at *
  rw [show slv .i64 T = .sl (nums .i64 T) 256 by show AV.sl _ _ = _; rw [lT]] at h
  have hr := pRings
  have hk := wOk
  simp (disch := first | assumption | omega | (simp only [List.length_cons, List.length_nil, List.length_set, List.length_append, List.length_replicate, List.length_map, List.length_range, List.length_take, List.length_drop, nums_length, bools_length, vecs_length]; first | done | omega)) [A35, hr, h, hk]
theorem wSmall {e : Nat} (he : e = 2 ∨ e = 3) {x : AV} {S : List Int} (hx : IsL .u8 x S) (hS : Bys S) {n : Int} (n0 : 0 ≤ n) (n1 : n < 256) :
    FF tab 32 [.op [.nl], .i .i64 e, x, .i .i64 n] = some ⟨.sl (nums .i64 (smL e S n)) 256, [[.nl]]⟩ := by
  refine call_by (A := A32) rfl rfl ?_
  have fx := hx.flat
  have hv : IsV (.sl [x, .sl (nums .u8 [n]) 1] 2) [x, .sl (nums .u8 [n]) 1] [S, [n]] := IsV.two hx (.inl rfl)
  have hnB : Bys [n] := ⟨fun y hy => by rw [List.mem_singleton.1 hy]; exact ⟨n0, by show n ≤ 255; omega⟩, by simp⟩
  have h := s256 (64 * e) hv (by intro L hL; rcases List.mem_cons.1 hL with rfl | hL; exact hS; rw [List.mem_singleton.1 hL]; exact hnB) (by simp)
  rw [if_neg (by omega), show [S, [n]].flatten = S ++ [n] by simp, show (64 * (e : Int)).toNat = 64 * e by omega, show outL 136 (padS 136 31 (takeL 136 (zL 25, 0) (S ++ [n]))) (64 * e) = prfL e S n from rfl] at h
  have hc := pCentered he (.mk .u8 (prfL e S n)) (prfL_in e S n) (prfL_len e S n)
  rw [show slv .u8 (prfL e S n) = .sl (nums .u8 (prfL e S n)) (64 * e) by show AV.sl _ _ = _; rw [prfL_len], show (List.range 256).map (Zab.cen (val (prfL e S n)) e) = smL e S n from rfl] at hc
  have lS : (smL e S n).length = 256 := (Vec.sm (by omega) S n).len
  have lP := prfL_len e S n
  generalize smL e S n = T at *
  generalize prfL e S n = P at *
  have w1 : IntKind.i64.wrap (64 * (e : Int)) = 64 * e := i64_in _ (by omega)
  have w2 : IntKind.u8.wrap n = n := by show n % 256 = n; omega
  rw [show nums .u8 [n] = [.i .u8 n] from rfl] at h
  have hk := wOk
  generalize (e : Int) = E at *
  simp (disch := first | assumption | omega | (simp only [List.length_cons, List.length_nil, List.length_set, List.length_append, List.length_replicate, List.length_map, List.length_range, List.length_take, List.length_drop, nums_length, bools_length, vecs_length]; first | done | omega)) [A32, h, hc, hk, w1, w2]
theorem vec_inB {L : List Int} (h : Vec L) : ∀ y ∈ L, InB 12 y := fun y hy => by
  obtain ⟨a, b⟩ := h.mods y hy
  exact ⟨a, by show y < 4096; omega⟩
def vecB (L : List Int) : List Int := bytL (num 12 L) 384
theorem vecB_len (L : List Int) : (vecB L).length = 384 := bytL_len _ _
theorem vecB_in (L : List Int) : ∀ y ∈ vecB L, inK .u8 y := bytL_in _ _
theorem wPack {x : AV} {L : List Int} (hx : IsL .i64 x L) (hL : Vec L) : FF tab 34 [.op [.nl], .i .i64 12, x] = some ⟨.sl (nums .u8 (vecB L)) 384, [[.nl]]⟩ := by
  refine call_by (A := A34) rfl rfl ?_
  have fx := hx.flat
  have h := pBits (d := 12) (by omega) (by omega) hx (by rw [hL.len]; omega) (by rw [hL.len]) (vec_inB hL)
  rw [hL.len, show 12 * 256 / 8 = 384 from rfl, show bytL (num 12 L) 384 = vecB L from rfl, show ((12 : Nat) : Int) = 12 from rfl] at h
  have lV := vecB_len L
  generalize vecB L = T at *
  have hk := wOk
  simp (disch := first | assumption | omega | (simp only [List.length_cons, List.length_nil, List.length_set, List.length_append, List.length_replicate, List.length_map, List.length_range, List.length_take, List.length_drop, nums_length, bools_length, vecs_length]; first | done | omega)) [A34, h, hk]
end Zab.YtjnomoefbffpoaaGreatDoorB
namespace Zab.YtjnomoefbffpoaaGreatDoorB
open Go
open Go.IntWalk (i64_in)
set_option maxRecDepth 100000
set_option linter.unusedSimpArgs false
set_option linter.unusedVariables false
attribute [-simp] getElem?_pos
attribute [local simp] sees_nil sees_rf sees_i sees_sl sees_z sees_rs sees_fl
def vs (A : List (List Int)) : List AV := A.map fun L => .sl (nums .i64 L) 256
theorem vs_len (A : List (List Int)) : (vs A).length = A.length := List.length_map _
theorem vs_get {A : List (List Int)} {k : Nat} (h : k < A.length) : (vs A)[k]? = some (.sl (nums .i64 (A.getD k [])) 256) := by
  rw [vs, List.getElem?_map, List.getElem?_eq_getElem h, List.getD_eq_getElem?_getD, List.getElem?_eq_getElem h]; rfl
theorem vs_app (A B : List (List Int)) : vs (A ++ B) = vs A ++ vs B := List.map_append
theorem Vec.isL {L : List Int} (h : Vec L) : IsL .i64 (.sl (nums .i64 L) 256) L := .inl (by show _ = AV.sl _ _; rw [h.len])
theorem vec_get {A : List (List Int)} (hA : ∀ L ∈ A, Vec L) {k : Nat} (h : k < A.length) : Vec (A.getD k []) := by
  rw [List.getD_eq_getElem?_getD, List.getElem?_eq_getElem h]
  exact hA _ (List.getElem_mem h)
noncomputable def dotTo (A B : List (List Int)) : Nat → List Int
  | 0 => List.replicate 256 0
  | k + 1 => addV (dotTo A B k) (timesL 3329 256 (A.getD k []) (B.getD k []))
theorem dotTo_vec (A B : List (List Int)) : ∀ k, Vec (dotTo A B k)
  | 0 => Vec.zero
  | k + 1 => Vec.add (dotTo_vec A B k).len _
set_option maxHeartbeats 4000000 in
theorem wDot {A B : List (List Int)} (hA : ∀ L ∈ A, Vec L) (hB : ∀ L ∈ B, Vec L) (hl : B.length = A.length) (hs : A.length ≤ 1000) :
    FF tab 36 [.op [.nl], .sl (vs A) A.length, .sl (vs B) A.length] = some ⟨.sl (nums .i64 (dotTo A B A.length)) 256, [[.nl]]⟩ := by
  refine call_by (A := A36) rfl rfl ?_
  have lA := vs_len A
  have lB := vs_len B
  simp (disch := first | assumption | omega | (simp only [List.length_cons, List.length_nil, List.length_set, List.length_append, List.length_replicate, List.length_map, List.length_range, List.length_take, List.length_drop, nums_length, bools_length, vecs_length]; first | done | omega)) [A36]
  refine w_heads A.length (fun k => ⟨[(14, .i .i64 k), (13, .i .i64 A.length), (7, .sl (nums .i64 (dotTo A B k)) 256), (2, .sl (vs B) A.length), (1, .sl (vs A) A.length), (0, .rf 0 0)], [(0, [.nl])]⟩) (by simp (disch := first | assumption | omega | (simp only [List.length_cons, List.length_nil, List.length_set, List.length_append, List.length_replicate, List.length_map, List.length_range, List.length_take, List.length_drop, nums_length, bools_length, vecs_length]; first | done | omega)) [dotTo]) ?_ ?_
  · intro k hk
    have w1 : IntKind.i64.wrap ((k : Int) + 1) = (k : Int) + 1 := i64_in _ (by omega)
    have hlt : (k : Int) < (A.length : Int) := by omega
    have tk : (k : Int).toNat = k := Int.toNat_natCast _
    have gA := vs_get hk
    have gB := vs_get (A := B) (k := k) (by omega)
    have vA := vec_get hA hk
    have vB := vec_get hB (k := k) (by omega)
    have h1 := nTimes 3329 256 vA.isL vB.isL vA.bad vB.bad
    rw [vA.len] at h1
    have vT := Vec.times (A.getD k []) (B.getD k [])
    have vD := dotTo_vec A B k
    have h2 := wAdd vD.isL vT.isL vD vT
    rw [show addV (dotTo A B k) (timesL 3329 256 (A.getD k []) (B.getD k [])) = dotTo A B (k + 1) from rfl] at h2
    have lT := vT.len
    generalize timesL 3329 256 (A.getD k []) (B.getD k []) = T at *
    generalize dotTo A B (k + 1) = D1 at *
    generalize dotTo A B k = D at *
    generalize A.getD k [] = a at *
    generalize B.getD k [] = b at *
    have hr := pRings
    have hk := wOk
    generalize vs A = VA at *
    generalize vs B = VB at *
    simp (disch := first | assumption | omega | (simp only [List.length_cons, List.length_nil, List.length_set, List.length_append, List.length_replicate, List.length_map, List.length_range, List.length_take, List.length_drop, nums_length, bools_length, vecs_length]; first | done | omega)) [hr, h1, h2, hk, gA, gB, w1, hlt, tk]
  · simp (disch := first | assumption | omega | (simp only [List.length_cons, List.length_nil, List.length_set, List.length_append, List.length_replicate, List.length_map, List.length_range, List.length_take, List.length_drop, nums_length, bools_length, vecs_length]; first | done | omega)) []
noncomputable def uniL (S : List Int) : List Int := open Classical in if h : ∃ N, (uni (stF 168 S) N).length = 256 ∧ ∀ i, i < N → (uni (stF 168 S) i).length < 256 then uni (stF 168 S) h.choose else []
theorem uniL_of {S : List Int} (h : ∀ y ∈ S, inK .u8 y) (hl : S.length ≤ 102) : ∃ N, uniL S = uni (stF 168 S) N ∧ (uni (stF 168 S) N).length = 256 ∧ ∀ i, i < N → (uni (stF 168 S) i).length < 256 := by
  have h1 := uni_ends h hl
  unfold uniL
  rw [dif_pos h1]
  exact ⟨_, rfl, h1.choose_spec.1, h1.choose_spec.2⟩
theorem pUni {x : AV} {L : List Int} (hx : IsL .u8 x L) (hB : Bys L) (hl : L.length ≤ 100) {i j : Int} (i0 : 0 ≤ i) (i1 : i < 256) (j0 : 0 ≤ j) (j1 : j < 256) :
    FF tab 76 [x, .i .u8 i, .i .u8 j] = some ⟨.os (nums .i64 (uniL (L ++ [i, j]))) 256 1, []⟩ := by
  obtain ⟨N, e, n1, n2⟩ := uniL_of (app_in hB.byte (two_in i0 i1 j0 j1).byte) (by simp only [List.length_append, List.length_cons, List.length_nil]; omega)
  rw [e]
  exact pUniform hx hB hl i0 i1 j0 j1 n1 n2
theorem dUni {x : AV} {L : List Int} (hx : IsL .u8 x L) (hB : Bys L) (hl : L.length ≤ 100) {i j : Int} (i0 : 0 ≤ i) (i1 : i < 256) (j0 : 0 ≤ j) (j1 : j < 256) :
    FF tab 83 [x, .i .u8 i, .i .u8 j] = some ⟨.os (nums .i64 (uniL (L ++ [i, j]))) 256 1, []⟩ := by
  obtain ⟨N, e, n1, n2⟩ := uniL_of (app_in hB.byte (two_in i0 i1 j0 j1).byte) (by simp only [List.length_append, List.length_cons, List.length_nil]; omega)
  rw [e]
  exact dUniform hx hB hl i0 i1 j0 j1 n1 n2
theorem uniL_vec {L : List Int} (hB : ∀ y ∈ L, inK .u8 y) (hl : L.length ≤ 102) : Vec (uniL L) := by
  obtain ⟨N, e, n1, n2⟩ := uniL_of hB hl
  rw [e]
  exact ⟨n1, fun y hy => uni_bound (f := stF 168 L) (fun k => by unfold stF; exact bt_in _ _ _) N y hy⟩
noncomputable def rowM (S : List Int) (i k : Nat) : List (List Int) := (List.range k).map fun (j : Nat) => uniL (S ++ [(j : Int), (i : Int)])
theorem rowM_len (S : List Int) (i k : Nat) : (rowM S i k).length = k := by simp [rowM]
theorem rowM_succ (S : List Int) (i k : Nat) : rowM S i (k + 1) = rowM S i k ++ [uniL (S ++ [(k : Int), (i : Int)])] := by simp [rowM, List.range_succ]
theorem rowM_vec {S : List Int} (hB : ∀ y ∈ S, inK .u8 y) (hl : S.length ≤ 100) {i k : Nat} (hi : i < 256) (hk : k ≤ 256) : ∀ L ∈ rowM S i k, Vec L := fun L hL => by
  obtain ⟨j, hj, rfl⟩ := List.mem_map.1 hL
  have := List.mem_range.1 hj
  exact uniL_vec (app_in hB (two_in (by omega) (by omega) (by omega) (by omega)).byte) (by simp only [List.length_append, List.length_cons, List.length_nil]; omega)
noncomputable def matM (S : List Int) (k n : Nat) : List AV := (List.range n).map fun (i : Nat) => .sl (vs (rowM S i k)) k
theorem matM_len (S : List Int) (k n : Nat) : (matM S k n).length = n := by simp [matM]
theorem matM_succ (S : List Int) (k n : Nat) : matM S k (n + 1) = matM S k n ++ [.sl (vs (rowM S n k)) k] := by simp [matM, List.range_succ]
theorem matM_get (S : List Int) (k : Nat) {n i : Nat} (h : i < n) : (matM S k n)[i]? = some (.sl (vs (rowM S i k)) k) := by
  rw [matM, List.getElem?_map, List.getElem?_range h]; rfl
set_option maxHeartbeats 4000000 in
theorem pMatrix {x : AV} {S : List Int} (hx : IsL .u8 x S) (hB : Bys S) (hl : S.length ≤ 100) {k : Nat} (hk : k ≤ 16) : FF tab 33 [.i .i64 k, x, .b false] = some ⟨.os (matM S k k) k 1, []⟩ := by
  refine call_by (A := A33) rfl rfl ?_
  have fx := hx.flat
  simp (disch := first | assumption | omega | (simp only [List.length_cons, List.length_nil, List.length_set, List.length_append, List.length_replicate, List.length_map, List.length_range, List.length_take, List.length_drop, nums_length, bools_length, vecs_length]; first | done | omega)) [A33]
  refine w_heads k (fun i => ⟨[(14, .i .i64 i), (13, .i .i64 k), (7, .rs 7 0 i 1), (2, .b false), (1, x), (0, .i .i64 k)], [(7, matM S k i)]⟩) (by simp (disch := first | assumption | omega | (simp only [List.length_cons, List.length_nil, List.length_set, List.length_append, List.length_replicate, List.length_map, List.length_range, List.length_take, List.length_drop, nums_length, bools_length, vecs_length]; first | done | omega)) [matM]) ?_ ?_
  · intro i hi
    have w1 : IntKind.i64.wrap ((i : Int) + 1) = (i : Int) + 1 := i64_in _ (by omega)
    have hlt : (i : Int) < (k : Int) := by omega
    have lM := matM_len S k i
    rw [matM_succ]
    generalize matM S k i = M at *
    simp (disch := first | assumption | omega | (simp only [List.length_cons, List.length_nil, List.length_set, List.length_append, List.length_replicate, List.length_map, List.length_range, List.length_take, List.length_drop, nums_length, bools_length, vecs_length]; first | done | omega)) [hlt]
    refine w_heads k (fun j => ⟨[(18, .i .i64 j), (17, .i .i64 k), (14, .i .i64 i), (13, .i .i64 k), (9, .rs 9 0 j 1), (8, .i .i64 i), (7, .rs 7 0 i 1), (2, .b false), (1, x), (0, .i .i64 k)], [(9, vs (rowM S i j)), (7, M)]⟩) (by simp (disch := first | assumption | omega | (simp only [List.length_cons, List.length_nil, List.length_set, List.length_append, List.length_replicate, List.length_map, List.length_range, List.length_take, List.length_drop, nums_length, bools_length, vecs_length]; first | done | omega)) [rowM, vs]) ?_ ?_
    · intro j hj
      have w2 : IntKind.i64.wrap ((j : Int) + 1) = (j : Int) + 1 := i64_in _ (by omega)
      have hlj : (j : Int) < (k : Int) := by omega
      have c1 : IntKind.u8.wrap (j : Int) = j := by show (j : Int) % 256 = j; omega
      have c2 : IntKind.u8.wrap (i : Int) = i := by show (i : Int) % 256 = i; omega
      have hU := pUni hx hB hl (i := j) (j := i) (by omega) (by omega) (by omega) (by omega)
      have lR : (vs (rowM S i j)).length = j := by rw [vs_len, rowM_len]
      rw [rowM_succ, vs_app]
      have lU := (uniL_vec (L := S ++ [(j : Int), (i : Int)]) (app_in hB.byte (two_in (by omega) (by omega) (by omega) (by omega)).byte) (by simp only [List.length_append, List.length_cons, List.length_nil]; omega)).len
      rw [show vs [uniL (S ++ [(j : Int), (i : Int)])] = [.sl (nums .i64 (uniL (S ++ [(j : Int), (i : Int)]))) 256] from rfl]
      generalize uniL (S ++ [(j : Int), (i : Int)]) = U at *
      generalize vs (rowM S i j) = R at *
      simp (disch := first | assumption | omega | (simp only [List.length_cons, List.length_nil, List.length_set, List.length_append, List.length_replicate, List.length_map, List.length_range, List.length_take, List.length_drop, nums_length, bools_length, vecs_length]; first | done | omega)) [hlj, w2, c1, c2, hU]
    · have lR : (vs (rowM S i k)).length = k := by rw [vs_len, rowM_len]
      generalize vs (rowM S i k) = R at *
      have hR : R.take k = R := List.take_of_length_le (by omega)
      simp (disch := first | assumption | omega | (simp only [List.length_cons, List.length_nil, List.length_set, List.length_append, List.length_replicate, List.length_map, List.length_range, List.length_take, List.length_drop, nums_length, bools_length, vecs_length]; first | done | omega)) [w1, hR]
  · have lM := matM_len S k k
    generalize matM S k k = M at *
    simp (disch := first | assumption | omega | (simp only [List.length_cons, List.length_nil, List.length_set, List.length_append, List.length_replicate, List.length_map, List.length_range, List.length_take, List.length_drop, nums_length, bools_length, vecs_length]; first | done | omega)) []
theorem slc_rs0 (d : Nat) {m : Nat} (h : 0 < m) : slcV 1 (.rs d 0 m 1) none (some (.i .i64 0)) none = some (.rs d 0 0 1) := by
  cases m with
  | zero => omega
  | succ m => rfl
theorem pGrow {n : Int} (h0 : 0 < n) (h1 : n ≤ 1000000) : FF tab 80 [.z, .i .i64 n] = some ⟨.os [] 0 1, []⟩ := by
  refine call_by (A := A80) rfl rfl ?_
  have w1 : IntKind.i64.wrap n = n := i64_in _ (by omega)
  have h2 : ¬ n < 0 := by omega
  obtain ⟨m, hm⟩ : ∃ m : Nat, n.toNat = m := ⟨_, rfl⟩
  have hm2 : m ≤ 1000000 := by omega
  simp (disch := first | assumption | omega | (simp only [List.length_cons, List.length_nil, List.length_set, List.length_append, List.length_replicate, List.length_map, List.length_range, List.length_take, List.length_drop, nums_length, bools_length, vecs_length]; first | done | omega)) [A80, w1, show IntKind.i64.wrap 0 = 0 from rfl, show slcV 1 AV.z none (some (.i .i64 0)) none = some .z from rfl, slc_rs0 (d := 22) (m := m) (by omega), h0, h2, hm]
end Zab.YtjnomoefbffpoaaGreatDoorB
namespace Zab.YtjnomoefbffpoaaGreatDoorB
open Go
open Go.IntWalk (i64_in)
set_option maxRecDepth 100000
set_option linter.unusedSimpArgs false
set_option linter.unusedVariables false
attribute [-simp] getElem?_pos
attribute [local simp] sees_nil sees_rf sees_i sees_sl sees_z sees_rs sees_fl
theorem fBytes {x : AV} {L : List Int} (hx : IsL .u8 x L) (hs : L.length ≤ 100000) : FF tab 26 [x] = some ⟨.os (nums .u8 L) L.length 1, []⟩ := by
  refine call_by (A := A26) rfl rfl ?_
  have fx := hx.flat
  have lx := lenV_isL hx
  have zz : zrep [AV.i .u8 0] 0 = [] := rfl
  simp (disch := first | assumption | omega | (simp only [List.length_cons, List.length_nil, List.length_set, List.length_append, List.length_replicate, List.length_map, List.length_range, List.length_take, List.length_drop, nums_length, bools_length, vecs_length]; first | done | omega)) [A26, lx, zz]
  refine w_heads L.length (fun k => ⟨[(4, .i .i64 k), (3, .rs 7 0 k 1), (0, x)], [(7, nums .u8 (L.take k))]⟩) (by simp (disch := first | assumption | omega | (simp only [List.length_cons, List.length_nil, List.length_set, List.length_append, List.length_replicate, List.length_map, List.length_range, List.length_take, List.length_drop, nums_length, bools_length, vecs_length]; first | done | omega)) [nums_nil]) ?_ ?_
  · intro k hk
    have wk : IntKind.i64.wrap ((k : Int) + 1) = (k : Int) + 1 := i64_in _ (by omega)
    have hkn : (k : Int).toNat = k := Int.toNat_natCast _
    have hkL : (k : Int) < (L.length : Int) := by omega
    have ix := ixSV_isL hx (k' := .i64) (j := (k : Int)) (by omega) (by omega)
    rw [hkn] at ix
    have gx := nums_get (k := .u8) hk
    have e : L.take (k + 1) = L.take k ++ [ni L k] := by rw [List.take_succ_eq_append_getElem hk, ni_get hk]
    have hl : (L.take k).length = k := by rw [List.length_take]; omega
    rw [e]
    generalize ni L k = Y at *
    generalize L.take k = F at *
    generalize hT : (k : Int) = T at *
    simp (disch := first | assumption | omega | (simp only [List.length_cons, List.length_nil, List.length_set, List.length_append, List.length_replicate, List.length_map, List.length_range, List.length_take, List.length_drop, nums_length, bools_length, vecs_length]; first | done | omega)) [lx, hkL, ix, gx, hkn, wk, hl, hT, nums_snoc]
  · rw [List.take_length]
    have hnl := nums_length .u8 L
    generalize nums .u8 L = C at *
    simp (disch := first | assumption | omega | (simp only [List.length_cons, List.length_nil, List.length_set, List.length_append, List.length_replicate, List.length_map, List.length_range, List.length_take, List.length_drop, nums_length, bools_length, vecs_length]; first | done | omega)) [hnl, lx]
end Zab.YtjnomoefbffpoaaGreatDoorB
namespace Zab.YtjnomoefbffpoaaGreatDoorB
open Go
open Go.IntWalk (i64_in)
set_option maxRecDepth 100000
set_option linter.unusedSimpArgs false
set_option linter.unusedVariables false
attribute [-simp] getElem?_pos
attribute [local simp] sees_nil sees_rf sees_i sees_sl sees_z sees_rs sees_fl
theorem flat_take_succ {Ls : List (List Int)} {k : Nat} (hk : k < Ls.length) : (Ls.take (k + 1)).flatten = (Ls.take k).flatten ++ Ls[k] := by
  rw [List.take_succ_eq_append_getElem hk, List.flatten_append]; simp
theorem flat_take_le (Ls : List (List Int)) (k : Nat) : (Ls.take k).flatten.length ≤ Ls.flatten.length := by
  have : Ls.flatten = (Ls.take k).flatten ++ (Ls.drop k).flatten := by rw [← List.flatten_append, List.take_append_drop]
  rw [this, List.length_append]; omega
set_option maxHeartbeats 4000000 in
theorem pConcat {x : AV} {xs : List AV} {Ls : List (List Int)} (hv : IsV x xs Ls) (h0 : 0 < Ls.flatten.length) (h1 : Ls.flatten.length ≤ 1000000) (hm : xs.length ≤ 1000000) :
    FF tab 37 [x] = some ⟨.os (nums .u8 Ls.flatten) Ls.flatten.length 1, []⟩ := by
  refine call_by (A := A37) rfl rfl ?_
  have hx := hv.ls
  have fx := hv.flat
  have lx := hv.len
  simp (disch := first | assumption | omega | (simp only [List.length_cons, List.length_nil, List.length_set, List.length_append, List.length_replicate, List.length_map, List.length_range, List.length_take, List.length_drop, nums_length, bools_length, vecs_length]; first | done | omega)) [A37, lx]
  refine w_heads xs.length (fun k => ⟨[(11, .i .i64 k), (10, .i .i64 xs.length), (9, x), (3, .i .i64 (Ls.take k).flatten.length), (0, x)], []⟩) (by simp (disch := first | assumption | omega | (simp only [List.length_cons, List.length_nil, List.length_set, List.length_append, List.length_replicate, List.length_map, List.length_range, List.length_take, List.length_drop, nums_length, bools_length, vecs_length]; first | done | omega)) []) ?_ ?_
  · intro k hk
    have hkL : k < Ls.length := by rw [← hx.1]; exact hk
    have hl := hx.2 k hk hkL
    have hix := hv.ix hk
    have hget : xs[k]? = some xs[k] := List.getElem?_eq_getElem hk
    have w1 : IntKind.i64.wrap ((k : Int) + 1) = (k : Int) + 1 := i64_in _ (by omega)
    have hlt : (k : Int) < (xs.length : Int) := by omega
    have le1 := flat_take_le Ls (k + 1)
    rw [flat_take_succ hkL] at le1 ⊢
    rw [List.length_append] at le1 ⊢
    have ll := lenV_isL hl
    have fl := hl.flat
    generalize (Ls.take k).flatten.length = T at *
    generalize (Ls[k]).length = t at *
    have w2 : IntKind.i64.wrap ((T : Int) + (t : Int)) = (T : Int) + t := i64_in _ (by omega)
    have h2 : ¬ (T : Int) + t < 0 := by omega
    generalize xs[k] = y at *
    clear hl hx hv
    simp (disch := first | assumption | omega | (simp only [List.length_cons, List.length_nil, List.length_set, List.length_append, List.length_replicate, List.length_map, List.length_range, List.length_take, List.length_drop, nums_length, bools_length, vecs_length]; first | done | omega)) [hix, hget, hlt, w1, w2, h2, ll]
  · have e : Ls.take xs.length = Ls := by rw [hx.1]; exact List.take_length
    rw [e]
    have hG := pGrow (n := (Ls.flatten.length : Int)) (by omega) (by omega)
    have hF : ∀ k, (Ls.take k).flatten.length ≤ 1000000 := fun k => Nat.le_trans (flat_take_le Ls k) h1
    obtain ⟨T, hT⟩ : ∃ T, Ls.flatten = T := ⟨_, rfl⟩
    rw [hT] at hG h0 h1 ⊢
    simp (disch := first | assumption | omega | (simp only [List.length_cons, List.length_nil, List.length_set, List.length_append, List.length_replicate, List.length_map, List.length_range, List.length_take, List.length_drop, nums_length, bools_length, vecs_length]; first | done | omega)) [hG, lx]
    refine w_heads xs.length (fun k => ⟨[(27, .i .i64 k), (26, .i .i64 xs.length), (25, x), (6, .rs 24 0 (Ls.take k).flatten.length 1)], [(24, nums .u8 (Ls.take k).flatten)]⟩) (by simp (disch := first | assumption | omega | (simp only [List.length_cons, List.length_nil, List.length_set, List.length_append, List.length_replicate, List.length_map, List.length_range, List.length_take, List.length_drop, nums_length, bools_length, vecs_length]; first | done | omega)) [nums_nil]) ?_ ?_
    · intro k hk
      have hkL : k < Ls.length := by rw [← hx.1]; exact hk
      have hl := hx.2 k hk hkL
      have hix := hv.ix hk
      have hget : xs[k]? = some xs[k] := List.getElem?_eq_getElem hk
      have w1 : IntKind.i64.wrap ((k : Int) + 1) = (k : Int) + 1 := i64_in _ (by omega)
      have hlt : (k : Int) < (xs.length : Int) := by omega
      have le1 := hF (k + 1)
      rw [flat_take_succ hkL] at le1 ⊢
      rw [List.length_append] at le1
      have fl := hl.flat
      have sl := fun (l : List (Nat × List AV)) (d : Nat) => src_isL hl l d
      clear hF hT
      generalize (Ls.take k).flatten = U at *
      generalize Ls[k] = t at *
      generalize xs[k] = y at *
      clear hl hx hv hG
      simp (disch := first | assumption | omega | (simp only [List.length_cons, List.length_nil, List.length_set, List.length_append, List.length_replicate, List.length_map, List.length_range, List.length_take, List.length_drop, nums_length, bools_length, vecs_length]; first | done | omega)) [hix, hget, hlt, w1, sl, ← nums_append, List.length_append]
    · rw [e, hT]
      have hS : (Ls.map List.length).sum = T.length := by rw [← hT, List.length_flatten]
      clear e hF hT
      simp (disch := first | assumption | omega | (simp only [List.length_cons, List.length_nil, List.length_set, List.length_append, List.length_replicate, List.length_map, List.length_range, List.length_take, List.length_drop, nums_length, bools_length, vecs_length]; first | done | omega)) [hS]
def hsum (L : List Int) : List Int := outL 72 (padS 72 6 (takeL 72 (zL 25, 0) L)) 64
theorem hsum_len (L : List Int) : (hsum L).length = 64 := by unfold hsum; rw [outL_len]
theorem hsum_in (L : List Int) : ∀ y ∈ hsum L, inK .u8 y := outL_inn _ _ _
theorem pHalves {x : AV} {xs : List AV} {Ls : List (List Int)} (hv : IsV x xs Ls) (hB : ∀ y ∈ Ls.flatten, inK .u8 y) (h0 : 0 < Ls.flatten.length) (h1 : Ls.flatten.length ≤ 1000000) (hm : xs.length ≤ 1000000) :
    FF tab 30 [x] = some ⟨.tp [.sl (nums .u8 ((hsum Ls.flatten).take 32)) 32, .sl (nums .u8 ((hsum Ls.flatten).drop 32)) 32], []⟩ := by
  refine call_by (A := A30) rfl rfl ?_
  have fx := hv.flat
  have h := pConcat hv h0 h1 hm
  have hs := sSum512 (.mk .u8 Ls.flatten) ⟨hB, by omega⟩
  rw [show outL 72 (padS 72 6 (takeL 72 (zL 25, 0) Ls.flatten)) 64 = hsum Ls.flatten from rfl] at hs
  have lh := hsum_len Ls.flatten
  generalize hsum Ls.flatten = H at *
  generalize Ls.flatten = T at *
  have e1 : (nums .u8 H).take 32 = nums .u8 (H.take 32) := by simp [nums]
  have e2 : (nums .u8 H).drop 32 = nums .u8 (H.drop 32) := by simp [nums]
  have e3 : (nums .u8 (H.drop 32)).take 32 = nums .u8 (H.drop 32) := List.take_of_length_le (by rw [nums_length, List.length_drop]; omega)
  have s1 : slcV 1 (.sl (nums .u8 H) 64) none (some (.i .i64 32)) none = some (.sl (nums .u8 (H.take 32)) 32) := by rw [← e1]; rfl
  have s2 : slcV 1 (.sl (nums .u8 H) 64) (some (.i .i64 32)) none none = some (.sl (nums .u8 (H.drop 32)) 32) := by rw [← e3, ← e2]; rfl
  rw [show slv .u8 T = .sl (nums .u8 T) T.length from rfl] at hs
  simp (disch := first | assumption | omega | (simp only [List.length_cons, List.length_nil, List.length_set, List.length_append, List.length_replicate, List.length_map, List.length_range, List.length_take, List.length_drop, nums_length, bools_length, vecs_length]; first | done | omega)) [A30, h, hs, s1, s2]
theorem dLong {x y : AV} {L M : List Int} (hx : IsL .u8 x L) (hy : IsL .u8 y M) :
    FF tab 39 [.sl [x, y] 2, .sl [.i .i64 32, .i .i64 32] 2] = some ⟨.i .i64 (if L.length = 32 ∧ M.length = 32 then 0 else 102), []⟩ := by
  refine call_by (A := A39) rfl rfl ?_
  have fx := hx.flat
  have fy := hy.flat
  have lx := lenV_isL hx
  have ly := lenV_isL hy
  simp (disch := first | assumption | omega | (simp only [List.length_cons, List.length_nil, List.length_set, List.length_append, List.length_replicate, List.length_map, List.length_range, List.length_take, List.length_drop, nums_length, bools_length, vecs_length]; first | done | omega)) [A39]
  by_cases h1 : (L.length : Int) = 32
  · by_cases h2 : (M.length : Int) = 32
    · rw [if_pos (by omega)]
      refine w_heads 2 (fun k => ⟨[(5, .i .i64 (k : Int)), (1, .sl [.i .i64 32, .i .i64 32] 2), (0, .sl [x, y] 2)], []⟩) (by simp (disch := first | assumption | omega | (simp only [List.length_cons, List.length_nil, List.length_set, List.length_append, List.length_replicate, List.length_map, List.length_range, List.length_take, List.length_drop, nums_length, bools_length, vecs_length]; first | done | omega)) []) ?_ ?_
      · intro k hk
        have : k = 0 ∨ k = 1 := by omega
        rcases this with rfl | rfl
        · simp (disch := first | assumption | omega | (simp only [List.length_cons, List.length_nil, List.length_set, List.length_append, List.length_replicate, List.length_map, List.length_range, List.length_take, List.length_drop, nums_length, bools_length, vecs_length]; first | done | omega)) [lx, h1, show IntKind.i64.wrap 1 = 1 from rfl, show IntKind.i64.wrap 2 = 2 from rfl]
        · simp (disch := first | assumption | omega | (simp only [List.length_cons, List.length_nil, List.length_set, List.length_append, List.length_replicate, List.length_map, List.length_range, List.length_take, List.length_drop, nums_length, bools_length, vecs_length]; first | done | omega)) [ly, h2, show IntKind.i64.wrap 1 = 1 from rfl, show IntKind.i64.wrap 2 = 2 from rfl]
      · simp (disch := first | assumption | omega | (simp only [List.length_cons, List.length_nil, List.length_set, List.length_append, List.length_replicate, List.length_map, List.length_range, List.length_take, List.length_drop, nums_length, bools_length, vecs_length]; first | done | omega)) []
    · rw [if_neg (by omega)]
      refine w_heads 1 (fun k => ⟨[(5, .i .i64 (k : Int)), (1, .sl [.i .i64 32, .i .i64 32] 2), (0, .sl [x, y] 2)], []⟩) (by simp (disch := first | assumption | omega | (simp only [List.length_cons, List.length_nil, List.length_set, List.length_append, List.length_replicate, List.length_map, List.length_range, List.length_take, List.length_drop, nums_length, bools_length, vecs_length]; first | done | omega)) []) ?_ ?_
      · intro k hk
        have : k = 0 := by omega
        subst this
        simp (disch := first | assumption | omega | (simp only [List.length_cons, List.length_nil, List.length_set, List.length_append, List.length_replicate, List.length_map, List.length_range, List.length_take, List.length_drop, nums_length, bools_length, vecs_length]; first | done | omega)) [lx, h1, show IntKind.i64.wrap 1 = 1 from rfl]
      · simp (disch := first | assumption | omega | (simp only [List.length_cons, List.length_nil, List.length_set, List.length_append, List.length_replicate, List.length_map, List.length_range, List.length_take, List.length_drop, nums_length, bools_length, vecs_length]; first | done | omega)) [ly, h2]
  · rw [if_neg (by omega)]
    refine w_heads 0 (fun k => ⟨[(5, .i .i64 (k : Int)), (1, .sl [.i .i64 32, .i .i64 32] 2), (0, .sl [x, y] 2)], []⟩) (by simp (disch := first | assumption | omega | (simp only [List.length_cons, List.length_nil, List.length_set, List.length_append, List.length_replicate, List.length_map, List.length_range, List.length_take, List.length_drop, nums_length, bools_length, vecs_length]; first | done | omega)) []) (fun k hk => by omega) ?_
    simp (disch := first | assumption | omega | (simp only [List.length_cons, List.length_nil, List.length_set, List.length_append, List.length_replicate, List.length_map, List.length_range, List.length_take, List.length_drop, nums_length, bools_length, vecs_length]; first | done | omega)) [lx, h1]
theorem dPrf {e : Nat} (he : e = 2 ∨ e = 3) {x : AV} {S : List Int} (hx : IsL .u8 x S) (hS : Bys S) {n : Int} (n0 : 0 ≤ n) (n1 : n < 256) :
    FF tab 43 [.i .i64 e, x, .i .i64 n] = some ⟨.sl (nums .i64 (smL e S n)) 256, []⟩ := by
  refine call_by (A := A43) rfl rfl ?_
  have fx := hx.flat
  have hv : IsV (.sl [x, .sl (nums .u8 [n]) 1] 2) [x, .sl (nums .u8 [n]) 1] [S, [n]] := IsV.two hx (.inl rfl)
  have hnB : Bys [n] := ⟨fun y hy => by rw [List.mem_singleton.1 hy]; exact ⟨n0, by show n ≤ 255; omega⟩, by simp⟩
  have h := d256 (n := 64 * e) (by omega) (by omega) hv (by intro L hL; rcases List.mem_cons.1 hL with rfl | hL; exact hS; rw [List.mem_singleton.1 hL]; exact hnB) (by simp)
  rw [show [S, [n]].flatten = S ++ [n] by simp, show (64 * (e : Int)).toNat = 64 * e by omega, show outL 136 (padS 136 31 (takeL 136 (zL 25, 0) (S ++ [n]))) (64 * e) = prfL e S n from rfl] at h
  have hc := dCentered he (.mk .u8 (prfL e S n)) (prfL_in e S n) (prfL_len e S n)
  rw [show slv .u8 (prfL e S n) = .sl (nums .u8 (prfL e S n)) (64 * e) by show AV.sl _ _ = _; rw [prfL_len], show (List.range 256).map (Zab.cen (val (prfL e S n)) e) = smL e S n from rfl] at hc
  have lS : (smL e S n).length = 256 := (Vec.sm (by omega) S n).len
  have lP := prfL_len e S n
  generalize smL e S n = T at *
  generalize prfL e S n = P at *
  have w1 : IntKind.i64.wrap (64 * (e : Int)) = 64 * e := i64_in _ (by omega)
  have w2 : IntKind.u8.wrap n = n := by show n % 256 = n; omega
  rw [show nums .u8 [n] = [.i .u8 n] from rfl] at h
  generalize (e : Int) = E at *
  simp (disch := first | assumption | omega | (simp only [List.length_cons, List.length_nil, List.length_set, List.length_append, List.length_replicate, List.length_map, List.length_range, List.length_take, List.length_drop, nums_length, bools_length, vecs_length]; first | done | omega)) [A43, h, hc, w1, w2]
theorem dPack {x : AV} {L : List Int} (hx : IsL .i64 x L) (hL : Vec L) : FF tab 45 [.i .i64 12, x] = some ⟨.sl (nums .u8 (vecB L)) 384, []⟩ := by
  refine call_by (A := A45) rfl rfl ?_
  have fx := hx.flat
  have h := dBits (d := 12) (by omega) (by omega) hx (by rw [hL.len]; omega) (by rw [hL.len]) (vec_inB hL)
  rw [hL.len, show 12 * 256 / 8 = 384 from rfl, show bytL (num 12 L) 384 = vecB L from rfl, show ((12 : Nat) : Int) = 12 from rfl] at h
  have lV := vecB_len L
  generalize vecB L = T at *
  simp (disch := first | assumption | omega | (simp only [List.length_cons, List.length_nil, List.length_set, List.length_append, List.length_replicate, List.length_map, List.length_range, List.length_take, List.length_drop, nums_length, bools_length, vecs_length]; first | done | omega)) [A45, h]
set_option maxHeartbeats 4000000 in
theorem dDot {A B : List (List Int)} (hA : ∀ L ∈ A, Vec L) (hB : ∀ L ∈ B, Vec L) (hl : B.length = A.length) (hs : A.length ≤ 1000) :
    FF tab 47 [(.ag [.i .i64 (3329), .i .i64 (256)]), .sl (vs A) A.length, .sl (vs B) A.length] = some ⟨.sl (nums .i64 (dotTo A B A.length)) 256, []⟩ := by
  refine call_by (A := A47) rfl rfl ?_
  have lA := vs_len A
  have lB := vs_len B
  simp (disch := first | assumption | omega | (simp only [List.length_cons, List.length_nil, List.length_set, List.length_append, List.length_replicate, List.length_map, List.length_range, List.length_take, List.length_drop, nums_length, bools_length, vecs_length]; first | done | omega)) [A47]
  refine w_heads A.length (fun k => ⟨[(8, .i .i64 k), (7, .sl (nums .i64 (dotTo A B k)) 256), (3, .rf 3 0), (2, .sl (vs B) A.length), (1, .sl (vs A) A.length)], [(3, [.i .i64 3329, .i .i64 256])]⟩) (by simp (disch := first | assumption | omega | (simp only [List.length_cons, List.length_nil, List.length_set, List.length_append, List.length_replicate, List.length_map, List.length_range, List.length_take, List.length_drop, nums_length, bools_length, vecs_length]; first | done | omega)) [dotTo]) ?_ ?_
  · intro k hk
    have w1 : IntKind.i64.wrap ((k : Int) + 1) = (k : Int) + 1 := i64_in _ (by omega)
    have hlt : (k : Int) < (A.length : Int) := by omega
    have tk : (k : Int).toNat = k := Int.toNat_natCast _
    have gA := vs_get hk
    have gB := vs_get (A := B) (k := k) (by omega)
    have vA := vec_get hA hk
    have vB := vec_get hB (k := k) (by omega)
    have h1 := fTimes 3329 256 vA.isL vB.isL vA.bad vB.bad
    rw [vA.len] at h1
    have vT := Vec.times (A.getD k []) (B.getD k [])
    have vD := dotTo_vec A B k
    have h2 := fAdd 3329 256 vD.isL vT.isL vD.bad vT.bad
    rw [vD.len, show zipTo (fun a b => (a + b) % 3329) (dotTo A B k) (timesL 3329 256 (A.getD k []) (B.getD k [])) = dotTo A B (k + 1) from rfl] at h2
    have lT := vT.len
    have lD := (dotTo_vec A B (k + 1)).len
    generalize timesL 3329 256 (A.getD k []) (B.getD k []) = T at *
    generalize dotTo A B (k + 1) = D1 at *
    generalize dotTo A B k = D at *
    generalize A.getD k [] = a at *
    generalize B.getD k [] = b at *
    generalize vs A = VA at *
    generalize vs B = VB at *
    simp (disch := first | assumption | omega | (simp only [List.length_cons, List.length_nil, List.length_set, List.length_append, List.length_replicate, List.length_map, List.length_range, List.length_take, List.length_drop, nums_length, bools_length, vecs_length]; first | done | omega)) [h1, h2, gA, gB, w1, hlt, tk]
  · simp (disch := first | assumption | omega | (simp only [List.length_cons, List.length_nil, List.length_set, List.length_append, List.length_replicate, List.length_map, List.length_range, List.length_take, List.length_drop, nums_length, bools_length, vecs_length]; first | done | omega)) []
noncomputable def tos (A : List (List Int)) : List (List Int) := A.map (toL 3329 256)
set_option maxHeartbeats 4000000 in
theorem dTos {A : List (List Int)} (hA : ∀ L ∈ A, Vec L) (hs : A.length ≤ 1000) :
    FF tab 44 [(.ag [.i .i64 (3329), .i .i64 (256)]), .sl (vs A) A.length] = some ⟨.os (vs (tos A)) A.length 1, []⟩ := by
  refine call_by (A := A44) rfl rfl ?_
  have lA := vs_len A
  simp (disch := first | assumption | omega | (simp only [List.length_cons, List.length_nil, List.length_set, List.length_append, List.length_replicate, List.length_map, List.length_range, List.length_take, List.length_drop, nums_length, bools_length, vecs_length]; first | done | omega)) [A44]
  refine w_heads A.length (fun k => ⟨[(6, .i .i64 k), (5, .rs 5 0 k 1), (2, .rf 2 0), (1, .sl (vs A) A.length)], [(5, vs (tos (A.take k))), (2, [.i .i64 3329, .i .i64 256])]⟩) (by simp (disch := first | assumption | omega | (simp only [List.length_cons, List.length_nil, List.length_set, List.length_append, List.length_replicate, List.length_map, List.length_range, List.length_take, List.length_drop, nums_length, bools_length, vecs_length]; first | done | omega)) [tos, vs]) ?_ ?_
  · intro k hk
    have w1 : IntKind.i64.wrap ((k : Int) + 1) = (k : Int) + 1 := i64_in _ (by omega)
    have hlt : (k : Int) < (A.length : Int) := by omega
    have tk : (k : Int).toNat = k := Int.toNat_natCast _
    have gA := vs_get hk
    have vA := vec_get hA hk
    have h1 := fTo 3329 256 vA.isL vA.bad
    rw [vA.len] at h1
    have lT := (Vec.to (A.getD k [])).len
    have e : vs (tos (A.take (k + 1))) = vs (tos (A.take k)) ++ [.sl (nums .i64 (toL 3329 256 (A.getD k []))) 256] := by
      rw [List.take_succ_eq_append_getElem hk, tos, List.map_append, vs_app, List.getD_eq_getElem?_getD, List.getElem?_eq_getElem hk]; rfl
    have lV : (vs (tos (A.take k))).length = k := by rw [vs_len, tos, List.length_map, List.length_take]; omega
    rw [e]
    generalize vs (tos (A.take k)) = V at *
    generalize toL 3329 256 (A.getD k []) = T at *
    generalize A.getD k [] = a at *
    generalize vs A = VA at *
    simp (disch := first | assumption | omega | (simp only [List.length_cons, List.length_nil, List.length_set, List.length_append, List.length_replicate, List.length_map, List.length_range, List.length_take, List.length_drop, nums_length, bools_length, vecs_length]; first | done | omega)) [h1, gA, w1, hlt, tk]
  · rw [List.take_length]
    have lV : (vs (tos A)).length = A.length := by rw [vs_len, tos, List.length_map]
    generalize vs (tos A) = V at *
    simp (disch := first | assumption | omega | (simp only [List.length_cons, List.length_nil, List.length_set, List.length_append, List.length_replicate, List.length_map, List.length_range, List.length_take, List.length_drop, nums_length, bools_length, vecs_length]; first | done | omega)) []
set_option maxHeartbeats 4000000 in
theorem dMatrix {x : AV} {S : List Int} (hx : IsL .u8 x S) (hB : Bys S) (hl : S.length ≤ 100) {k : Nat} (hk : k ≤ 16) : FF tab 42 [.i .i64 k, x] = some ⟨.os (matM S k k) k 1, []⟩ := by
  refine call_by (A := A42) rfl rfl ?_
  have fx := hx.flat
  simp (disch := first | assumption | omega | (simp only [List.length_cons, List.length_nil, List.length_set, List.length_append, List.length_replicate, List.length_map, List.length_range, List.length_take, List.length_drop, nums_length, bools_length, vecs_length]; first | done | omega)) [A42]
  refine w_heads k (fun i => ⟨[(6, .i .i64 i), (5, .rs 5 0 i 1), (1, x), (0, .i .i64 k)], [(5, matM S k i)]⟩) (by simp (disch := first | assumption | omega | (simp only [List.length_cons, List.length_nil, List.length_set, List.length_append, List.length_replicate, List.length_map, List.length_range, List.length_take, List.length_drop, nums_length, bools_length, vecs_length]; first | done | omega)) [matM]) ?_ ?_
  · intro i hi
    have w1 : IntKind.i64.wrap ((i : Int) + 1) = (i : Int) + 1 := i64_in _ (by omega)
    have hlt : (i : Int) < (k : Int) := by omega
    have lM := matM_len S k i
    rw [matM_succ]
    generalize matM S k i = M at *
    simp (disch := first | assumption | omega | (simp only [List.length_cons, List.length_nil, List.length_set, List.length_append, List.length_replicate, List.length_map, List.length_range, List.length_take, List.length_drop, nums_length, bools_length, vecs_length]; first | done | omega)) [hlt]
    refine w_heads k (fun j => ⟨[(8, .i .i64 j), (7, .rs 7 0 j 1), (6, .i .i64 i), (5, .rs 5 0 i 1), (1, x), (0, .i .i64 k)], [(7, vs (rowM S i j)), (5, M)]⟩) (by simp (disch := first | assumption | omega | (simp only [List.length_cons, List.length_nil, List.length_set, List.length_append, List.length_replicate, List.length_map, List.length_range, List.length_take, List.length_drop, nums_length, bools_length, vecs_length]; first | done | omega)) [rowM, vs]) ?_ ?_
    · intro j hj
      have w2 : IntKind.i64.wrap ((j : Int) + 1) = (j : Int) + 1 := i64_in _ (by omega)
      have hlj : (j : Int) < (k : Int) := by omega
      have c1 : IntKind.u8.wrap (j : Int) = j := by show (j : Int) % 256 = j; omega
      have c2 : IntKind.u8.wrap (i : Int) = i := by show (i : Int) % 256 = i; omega
      have hU := dUni hx hB hl (i := j) (j := i) (by omega) (by omega) (by omega) (by omega)
      have lR : (vs (rowM S i j)).length = j := by rw [vs_len, rowM_len]
      rw [rowM_succ, vs_app]
      have lU := (uniL_vec (L := S ++ [(j : Int), (i : Int)]) (app_in hB.byte (two_in (by omega) (by omega) (by omega) (by omega)).byte) (by simp only [List.length_append, List.length_cons, List.length_nil]; omega)).len
      rw [show vs [uniL (S ++ [(j : Int), (i : Int)])] = [.sl (nums .i64 (uniL (S ++ [(j : Int), (i : Int)]))) 256] from rfl]
      generalize uniL (S ++ [(j : Int), (i : Int)]) = U at *
      generalize vs (rowM S i j) = R at *
      simp (disch := first | assumption | omega | (simp only [List.length_cons, List.length_nil, List.length_set, List.length_append, List.length_replicate, List.length_map, List.length_range, List.length_take, List.length_drop, nums_length, bools_length, vecs_length]; first | done | omega)) [hlj, w2, c1, c2, hU]
    · have lR : (vs (rowM S i k)).length = k := by rw [vs_len, rowM_len]
      generalize vs (rowM S i k) = R at *
      have hR : R.take k = R := List.take_of_length_le (by omega)
      simp (disch := first | assumption | omega | (simp only [List.length_cons, List.length_nil, List.length_set, List.length_append, List.length_replicate, List.length_map, List.length_range, List.length_take, List.length_drop, nums_length, bools_length, vecs_length]; first | done | omega)) [w1, hR]
  · have lM := matM_len S k k
    generalize matM S k k = M at *
    simp (disch := first | assumption | omega | (simp only [List.length_cons, List.length_nil, List.length_set, List.length_append, List.length_replicate, List.length_map, List.length_range, List.length_take, List.length_drop, nums_length, bools_length, vecs_length]; first | done | omega)) []
end Zab.YtjnomoefbffpoaaGreatDoorB
namespace Zab.YtjnomoefbffpoaaGreatDoorB
open Go
open Go.IntWalk (i64_in)
set_option maxRecDepth 100000
set_option linter.unusedSimpArgs false
set_option linter.unusedVariables false
attribute [-simp] getElem?_pos
attribute [local simp] sees_nil sees_rf sees_i sees_sl sees_z sees_rs sees_fl
noncomputable def secV (e : Nat) (G : List Int) (k : Nat) : List (List Int) := (List.range k).map fun (i : Nat) => toL 3329 256 (smL e G (i : Int))
theorem secV_len (e : Nat) (G : List Int) (k : Nat) : (secV e G k).length = k := by simp [secV]
theorem secV_succ (e : Nat) (G : List Int) (k : Nat) : secV e G (k + 1) = secV e G k ++ [toL 3329 256 (smL e G (k : Int))] := by simp [secV, List.range_succ]
theorem secV_vec (e : Nat) (G : List Int) (k : Nat) : ∀ L ∈ secV e G k, Vec L := fun L hL => by
  obtain ⟨j, _, rfl⟩ := List.mem_map.1 hL
  exact Vec.to _
noncomputable def pubV (e : Nat) (R G : List Int) (k i : Nat) : List Int := addV (dotTo (rowM R i k) (secV e G k) k) (toL 3329 256 (smL e G ((k : Int) + (i : Int))))
theorem pubV_vec (e : Nat) (R G : List Int) (k i : Nat) : Vec (pubV e R G k i) := Vec.add (dotTo_vec _ _ _).len _
noncomputable def pubB (e : Nat) (R G : List Int) (k : Nat) : Nat → List Int
  | 0 => []
  | i + 1 => pubB e R G k i ++ vecB (pubV e R G k i)
theorem pubB_len (e : Nat) (R G : List Int) (k : Nat) : ∀ i, (pubB e R G k i).length = 384 * i
  | 0 => rfl
  | i + 1 => by rw [pubB, List.length_append, pubB_len e R G k i, vecB_len]; omega
theorem pubB_in (e : Nat) (R G : List Int) (k : Nat) : ∀ i, ∀ y ∈ pubB e R G k i, inK .u8 y
  | 0 => fun y hy => by cases hy
  | i + 1 => app_in (pubB_in e R G k i) (vecB_in _)
noncomputable def secB (e : Nat) (G : List Int) (k : Nat) : Nat → List Int
  | 0 => []
  | i + 1 => secB e G k i ++ vecB ((secV e G k).getD i [])
theorem secB_len (e : Nat) (G : List Int) (k : Nat) : ∀ i, (secB e G k i).length = 384 * i
  | 0 => rfl
  | i + 1 => by rw [secB, List.length_append, secB_len e G k i, vecB_len]; omega
def sum6 (L : List Int) : List Int := outL 136 (padS 136 6 (takeL 136 (zL 25, 0) L)) 32
theorem sum6_len (L : List Int) : (sum6 L).length = 32 := by unfold sum6; rw [outL_len]
def rhoL (D : List Int) (k : Nat) : List Int := (hsum (D ++ [(k : Int)])).take 32
def sigL (D : List Int) (k : Nat) : List Int := (hsum (D ++ [(k : Int)])).drop 32
noncomputable def ekL (e k : Nat) (D : List Int) : List Int := pubB e (rhoL D k) (sigL D k) k k ++ rhoL D k
noncomputable def dkL (e k : Nat) (D Z : List Int) : List Int := secB e (sigL D k) k k ++ (ekL e k D ++ (sum6 (ekL e k D) ++ Z))
theorem rhoL_len (D : List Int) (k : Nat) : (rhoL D k).length = 32 := by unfold rhoL; rw [List.length_take, hsum_len]; rfl
theorem sigL_len (D : List Int) (k : Nat) : (sigL D k).length = 32 := by unfold sigL; rw [List.length_drop, hsum_len]
theorem rhoL_in (D : List Int) (k : Nat) : ∀ y ∈ rhoL D k, inK .u8 y := fun y hy => hsum_in _ y (List.mem_of_mem_take hy)
theorem sigL_in (D : List Int) (k : Nat) : ∀ y ∈ sigL D k, inK .u8 y := fun y hy => hsum_in _ y (List.mem_of_mem_drop hy)
theorem ekL_len (e k : Nat) (D : List Int) : (ekL e k D).length = 384 * k + 32 := by unfold ekL; rw [List.length_append, pubB_len, rhoL_len]
theorem ekL_in (e k : Nat) (D : List Int) : ∀ y ∈ ekL e k D, inK .u8 y := app_in (pubB_in _ _ _ _ _) (rhoL_in _ _)
theorem dkL_len (e k : Nat) (D Z : List Int) (hZ : Z.length = 32) : (dkL e k D Z).length = 768 * k + 96 := by
  unfold dkL
  rw [List.length_append, List.length_append, List.length_append, secB_len, ekL_len, sum6_len, hZ]; omega
theorem IsV.four {a b c d : AV} {A B C D : List Int} (h1 : IsL .u8 a A) (h2 : IsL .u8 b B) (h3 : IsL .u8 c C) (h4 : IsL .u8 d D) : IsV (.sl [a, b, c, d] 4) [a, b, c, d] [A, B, C, D] :=
  ⟨.inl rfl, .cons h1 (.cons h2 (.cons h3 (.one h4)))⟩
set_option maxHeartbeats 8000000 in
theorem pKeys {n : Nat} (hn : n < 3) {k e : Nat} {a b c : Int} (hk : kset n = five k e a b c) (k2 : 2 ≤ k) (k4 : k ≤ 4) (he : e = 2 ∨ e = 3) {x y : AV} {D Z : List Int} (hx : IsL .u8 x D) (hy : IsL .u8 y Z) (hD : D.length = 32) (hZ : Z.length = 32) (iD : ∀ y ∈ D, inK .u8 y) (iZ : ∀ y ∈ Z, inK .u8 y) :
    FF tab 8 [.i .i64 n, x, y] = some ⟨.tp [slv .u8 (ekL e k D), slv .u8 (dkL e k D Z), .nl], []⟩ := by
  refine call_by (A := A8) rfl rfl ?_
  have fx := hx.flat
  have fy := hy.flat
  have hA := pAsk hn hx hy
  rw [if_pos ⟨hD, hZ⟩, hk] at hA
  have hkB : ∀ y ∈ [(k : Int)], inK .u8 y := fun y hy => by rw [List.mem_singleton.1 hy]; exact ⟨by show (0 : Int) ≤ _; omega, by show _ ≤ (255 : Int); omega⟩
  have hH := pHalves (IsV.two hx (u := .sl [.i .u8 k] 1) (M := [(k : Int)]) (.inl rfl)) (by rw [show [D, [(k : Int)]].flatten = D ++ [(k : Int)] by simp]; exact app_in iD hkB) (by simp) (by simp [hD]) (by simp)
  rw [show [D, [(k : Int)]].flatten = D ++ [(k : Int)] by simp, show (hsum (D ++ [(k : Int)])).take 32 = rhoL D k from rfl, show (hsum (D ++ [(k : Int)])).drop 32 = sigL D k from rfl] at hH
  have lR := rhoL_len D k
  have lG := sigL_len D k
  have iR := rhoL_in D k
  have iG := sigL_in D k
  have hE : ekL e k D = pubB e (rhoL D k) (sigL D k) k k ++ rhoL D k := rfl
  have hF : dkL e k D Z = secB e (sigL D k) k k ++ (ekL e k D ++ (sum6 (ekL e k D) ++ Z)) := rfl
  have lE := ekL_len e k D
  have lF := dkL_len e k D Z hZ
  have iE := ekL_in e k D
  generalize ekL e k D = EK at *
  generalize dkL e k D Z = DK at *
  generalize rhoL D k = R at *
  generalize sigL D k = G at *
  have w1 : IntKind.u8.wrap (k : Int) = k := by show (k : Int) % 256 = k; omega
  have hRL : IsL .u8 (.sl (nums .u8 R) 32) R := .inl (by show _ = AV.sl _ _; rw [lR])
  have hGL : IsL .u8 (.sl (nums .u8 G) 32) G := .inl (by show _ = AV.sl _ _; rw [lG])
  have bR : Bys R := ⟨iR, by omega⟩
  have bG : Bys G := ⟨iG, by omega⟩
  unfold five at hA
  simp (disch := first | assumption | omega | (simp only [List.length_cons, List.length_nil, List.length_set, List.length_append, List.length_replicate, List.length_map, List.length_range, List.length_take, List.length_drop, nums_length, bools_length, vecs_length]; first | done | omega)) [A8, hA, hH, w1, five]
  refine w_heads k (fun i => ⟨[(46, .i .i64 i), (45, .i .i64 k), (14, .rs 14 0 i 1), (13, .rf 43 0), (12, .sl (nums .u8 G) 32), (11, .sl (nums .u8 R) 32), (9, .rf 9 0), (2, y)], [(43, [.nl]), (14, vs (secV e G i)), (9, [.i .i64 k, .i .i64 e, .i .i64 a, .i .i64 b, .i .i64 c])]⟩) (by simp (disch := first | assumption | omega | (simp only [List.length_cons, List.length_nil, List.length_set, List.length_append, List.length_replicate, List.length_map, List.length_range, List.length_take, List.length_drop, nums_length, bools_length, vecs_length]; first | done | omega)) [secV, vs]) ?_ ?_
  · intro i hi
    have w2 : IntKind.i64.wrap ((i : Int) + 1) = (i : Int) + 1 := i64_in _ (by omega)
    have hlt : (i : Int) < (k : Int) := by omega
    have hS := wSmall he hGL bG (n := (i : Int)) (by omega) (by omega)
    have vS := Vec.sm (e := e) (by omega) G (i : Int)
    have hT := wTo vS.isL vS
    have lV : (vs (secV e G i)).length = i := by rw [vs_len, secV_len]
    rw [secV_succ, vs_app, show vs [toL 3329 256 (smL e G (i : Int))] = [.sl (nums .i64 (toL 3329 256 (smL e G (i : Int)))) 256] from rfl]
    have lT := (Vec.to (smL e G (i : Int))).len
    generalize toL 3329 256 (smL e G (i : Int)) = T at *
    generalize smL e G (i : Int) = S at *
    generalize vs (secV e G i) = V at *
    have lS := vS.len
    clear hE hF lE lF iE iD iZ bR bG iR iG vS hA hH
    simp (disch := first | assumption | omega | (simp only [List.length_cons, List.length_nil, List.length_set, List.length_append, List.length_replicate, List.length_map, List.length_range, List.length_take, List.length_drop, nums_length, bools_length, vecs_length]; first | done | omega)) [hlt, w2, hS, hT]
  · have hM := pMatrix hRL bR (by omega) (k := k) (by omega)
    have lM := matM_len R k k
    have gM := fun {i : Nat} (h : i < k) => matM_get R k h
    have lV := vs_len (secV e G k)
    rw [secV_len] at lV
    have tV : (vs (secV e G k)).take k = vs (secV e G k) := List.take_of_length_le (by omega)
    generalize matM R k k = M at *
    have tM : M.take k = M := List.take_of_length_le (by omega)
    simp (disch := first | assumption | omega | (simp only [List.length_cons, List.length_nil, List.length_set, List.length_append, List.length_replicate, List.length_map, List.length_range, List.length_take, List.length_drop, nums_length, bools_length, vecs_length]; first | done | omega)) [hM, tV, tM]
    refine w_heads k (fun i => ⟨[(66, .i .i64 i), (65, .i .i64 k), (64, .sl M k), (17, .rs 17 0 (384 * i) 1), (16, .rs 16 0 (384 * i) 1), (14, .sl (vs (secV e G k)) k), (13, .rf 43 0), (12, .sl (nums .u8 G) 32), (11, .sl (nums .u8 R) 32), (9, .rf 9 0), (2, y)], [(43, [.nl]), (17, nums .u8 (secB e G k i)), (16, nums .u8 (pubB e R G k i)), (9, [.i .i64 k, .i .i64 e, .i .i64 a, .i .i64 b, .i .i64 c])]⟩) (by simp (disch := first | assumption | omega | (simp only [List.length_cons, List.length_nil, List.length_set, List.length_append, List.length_replicate, List.length_map, List.length_range, List.length_take, List.length_drop, nums_length, bools_length, vecs_length]; first | done | omega)) [secB, pubB, nums_nil]) ?_ ?_
    · intro i hi
      have w2 : IntKind.i64.wrap ((i : Int) + 1) = (i : Int) + 1 := i64_in _ (by omega)
      have w3 : IntKind.i64.wrap ((k : Int) + (i : Int)) = (k : Int) + i := i64_in _ (by omega)
      have hlt : (i : Int) < (k : Int) := by omega
      have tk : (i : Int).toNat = i := Int.toNat_natCast _
      have gMi := gM hi
      have hS := wSmall he hGL bG (n := (k : Int) + (i : Int)) (by omega) (by omega)
      have vS := Vec.sm (e := e) (by omega) G ((k : Int) + (i : Int))
      have hT := wTo vS.isL vS
      have vT := Vec.to (smL e G ((k : Int) + (i : Int)))
      have hDt := wDot (A := rowM R i k) (B := secV e G k) (rowM_vec iR (by omega) (by omega) (by omega)) (secV_vec e G k) (by rw [secV_len, rowM_len]) (by rw [rowM_len]; omega)
      rw [rowM_len] at hDt
      have vD := dotTo_vec (rowM R i k) (secV e G k) k
      have hAd := wAdd vD.isL vT.isL vD vT
      rw [show addV (dotTo (rowM R i k) (secV e G k) k) (toL 3329 256 (smL e G ((k : Int) + (i : Int)))) = pubV e R G k i from rfl] at hAd
      have vP := pubV_vec e R G k i
      have hPk := wPack vP.isL vP
      have gS := vs_get (A := secV e G k) (k := i) (by rw [secV_len]; exact hi)
      have vG := vec_get (secV_vec e G k) (k := i) (by rw [secV_len]; exact hi)
      have hPs := wPack vG.isL vG
      rw [secB, pubB]
      have l1 := secB_len e G k i
      have l2 := pubB_len e R G k i
      have l3 := vecB_len (pubV e R G k i)
      have l4 := vecB_len ((secV e G k).getD i [])
      have e1 : 384 * (i + 1) = 384 * i + 384 := by omega
      rw [e1]
      generalize vecB (pubV e R G k i) = VP at *
      generalize vecB ((secV e G k).getD i []) = VG at *
      generalize pubV e R G k i = P at *
      generalize (secV e G k).getD i [] = S1 at *
      generalize dotTo (rowM R i k) (secV e G k) k = DT at *
      generalize toL 3329 256 (smL e G ((k : Int) + (i : Int))) = T at *
      generalize smL e G ((k : Int) + (i : Int)) = S at *
      generalize vs (secV e G k) = V at *
      generalize vs (rowM R i k) = RR at *
      generalize secB e G k i = SB at *
      generalize pubB e R G k i = PB at *
      have f1 := vS.len
      have f2 := vT.len
      have f3 := vD.len
      have f4 := vP.len
      have f5 := vG.len
      clear hE hF lE lF iE iD iZ bR bG iR iG vS vT vD vP vG hA hH hM gM
      simp (disch := first | assumption | omega | (simp only [List.length_cons, List.length_nil, List.length_set, List.length_append, List.length_replicate, List.length_map, List.length_range, List.length_take, List.length_drop, nums_length, bools_length, vecs_length]; first | done | omega)) [hlt, w2, w3, tk, gMi, hS, hT, hDt, hAd, hPk, gS, hPs, ← nums_append]
    · have l1 := secB_len e G k k
      have l2 := pubB_len e R G k k
      have hSm := sSum256 (.mk .u8 EK) ⟨iE, by omega⟩
      rw [show outL 136 (padS 136 6 (takeL 136 (zL 25, 0) EK)) 32 = sum6 EK from rfl, show slv .u8 EK = .sl (nums .u8 EK) (384 * k + 32) by show AV.sl _ _ = _; rw [lE]] at hSm
      have l3 := sum6_len EK
      have hC := pConcat (IsV.four (.mk .u8 (secB e G k k)) (.mk .u8 EK) (.mk .u8 (sum6 EK)) hy)
      rw [show [secB e G k k, EK, sum6 EK, Z].flatten = DK by rw [hF]; simp, lF] at hC
      have hC := hC (by omega) (by omega) (by simp)
      rw [show slv .u8 EK = .sl (nums .u8 EK) (384 * k + 32) by show AV.sl _ _ = _; rw [lE], show slv .u8 (sum6 EK) = .sl (nums .u8 (sum6 EK)) 32 by show AV.sl _ _ = _; rw [l3], show slv .u8 (secB e G k k) = .sl (nums .u8 (secB e G k k)) (384 * k) by show AV.sl _ _ = _; rw [l1]] at hC
      rw [show slv .u8 EK = .sl (nums .u8 EK) (384 * k + 32) by show AV.sl _ _ = _; rw [lE], show slv .u8 DK = .sl (nums .u8 DK) (768 * k + 96) by show AV.sl _ _ = _; rw [lF]]
      clear hF
      generalize sum6 EK = SE at *
      generalize secB e G k k = SB at *
      generalize pubB e R G k k = PB at *
      have hE2 : nums .u8 PB ++ nums .u8 R = nums .u8 EK := by rw [nums_append, ← hE]
      clear iE iD iZ bR bG iR iG hA hH hM gM hE
      have t1 : (nums .u8 SB).take (384 * k) = nums .u8 SB := List.take_of_length_le (by rw [nums_length]; omega)
      have t2 : (nums .u8 EK).take (384 * k + 32) = nums .u8 EK := List.take_of_length_le (by rw [nums_length]; omega)
      simp (disch := first | assumption | omega | (simp only [List.length_cons, List.length_nil, List.length_set, List.length_append, List.length_replicate, List.length_map, List.length_range, List.length_take, List.length_drop, nums_length, bools_length, vecs_length]; first | done | omega)) [hSm, hC, hE2, t1, t2]
end Zab.YtjnomoefbffpoaaGreatDoorB
namespace Zab.YtjnomoefbffpoaaGreatDoorB
open Go
open Go.IntWalk (i64_in)
set_option maxRecDepth 100000
set_option linter.unusedSimpArgs false
set_option linter.unusedVariables false
attribute [-simp] getElem?_pos
attribute [local simp] sees_nil sees_rf sees_i sees_sl sees_z sees_rs sees_fl
theorem keepE_i (k : IntKind) (n : Int) : keepE (some (.i k n)) = some (.i k n) := rfl
attribute [local simp] keepE_i
def smV (e : Nat) (G : List Int) (f k : Nat) : List (List Int) := (List.range k).map fun (i : Nat) => smL e G ((f : Int) + (i : Int))
theorem smV_len (e : Nat) (G : List Int) (f k : Nat) : (smV e G f k).length = k := by simp [smV]
theorem smV_succ (e : Nat) (G : List Int) (f k : Nat) : smV e G f (k + 1) = smV e G f k ++ [smL e G ((f : Int) + (k : Int))] := by simp [smV, List.range_succ]
theorem smV_vec {e : Nat} (he : e ≤ 3) (G : List Int) (f k : Nat) : ∀ L ∈ smV e G f k, Vec L := fun L hL => by
  obtain ⟨j, _, rfl⟩ := List.mem_map.1 hL
  exact Vec.sm he G _
theorem tos_sec (e : Nat) (G : List Int) (k : Nat) : tos (smV e G 0 k) = secV e G k := by
  unfold tos smV secV
  rw [List.map_map]
  apply List.map_congr_left
  intro j _
  show toL 3329 256 (smL e G ((0 : Nat) + (j : Int))) = _
  rw [show ((0 : Nat) : Int) + (j : Int) = j by omega]
theorem tos_get (e : Nat) (G : List Int) (f : Nat) {k i : Nat} (h : i < k) : (vs (tos (smV e G f k)))[i]? = some (.sl (nums .i64 (toL 3329 256 (smL e G ((f : Int) + (i : Int))))) 256) := by
  unfold vs tos smV
  rw [List.getElem?_map, List.getElem?_map, List.getElem?_map, List.getElem?_range h]; rfl
theorem dKeysN {s : Int} (h : s < 0 ∨ 3 ≤ s) {x y : AV} (fx : x.flat = true) (fy : y.flat = true) : FF tab 9 [.i .i64 s, x, y] = some ⟨.tp [.z, .z, .i .i64 101], []⟩ := by
  refine call_by (A := A9) rfl rfl ?_
  by_cases h0 : s < 0
  · simp (disch := first | assumption | omega | (simp only [List.length_cons, List.length_nil, List.length_set, List.length_append, List.length_replicate, List.length_map, List.length_range, List.length_take, List.length_drop, nums_length, bools_length, vecs_length]; first | done | omega)) [A9, h0]
  · have h3 : 2 < s := by omega
    simp (disch := first | assumption | omega | (simp only [List.length_cons, List.length_nil, List.length_set, List.length_append, List.length_replicate, List.length_map, List.length_range, List.length_take, List.length_drop, nums_length, bools_length, vecs_length]; first | done | omega)) [A9, h0, h3]
theorem dKeysL {n : Nat} (hn : n < 3) {x y : AV} {D Z : List Int} (hx : IsL .u8 x D) (hy : IsL .u8 y Z) (h : ¬ (D.length = 32 ∧ Z.length = 32)) : FF tab 9 [.i .i64 n, x, y] = some ⟨.tp [.z, .z, .i .i64 102], []⟩ := by
  refine call_by (A := A9) rfl rfl ?_
  have fx := hx.flat
  have fy := hy.flat
  have hl := dLong hx hy
  rw [if_neg h] at hl
  have h0 : ¬ (n : Int) < 0 := by omega
  have h1 : ¬ 2 < (n : Int) := by omega
  simp (disch := first | assumption | omega | (simp only [List.length_cons, List.length_nil, List.length_set, List.length_append, List.length_replicate, List.length_map, List.length_range, List.length_take, List.length_drop, nums_length, bools_length, vecs_length]; first | done | omega)) [A9, h0, h1, hl]
set_option maxHeartbeats 8000000 in
theorem dKeys {n : Nat} (hn : n < 3) {k e : Nat} {a b c : Int} (hk : kset n = five k e a b c) (k2 : 2 ≤ k) (k4 : k ≤ 4) (he : e = 2 ∨ e = 3) {x y : AV} {D Z : List Int} (hx : IsL .u8 x D) (hy : IsL .u8 y Z) (hD : D.length = 32) (hZ : Z.length = 32) (iD : ∀ y ∈ D, inK .u8 y) (iZ : ∀ y ∈ Z, inK .u8 y) :
    FF tab 9 [.i .i64 n, x, y] = some ⟨.tp [slv .u8 (ekL e k D), .os (nums .u8 (dkL e k D Z)) (768 * k + 96) 1, .i .i64 0], []⟩ := by
  refine call_by (A := A9) rfl rfl ?_
  have fx := hx.flat
  have fy := hy.flat
  have hl := dLong hx hy
  rw [if_pos ⟨hD, hZ⟩] at hl
  have h0 : ¬ (n : Int) < 0 := by omega
  have h1 : ¬ 2 < (n : Int) := by omega
  have hkB : ∀ y ∈ [(k : Int)], inK .u8 y := fun y hy => by rw [List.mem_singleton.1 hy]; exact ⟨by show (0 : Int) ≤ _; omega, by show _ ≤ (255 : Int); omega⟩
  have hBy := fBytes hx (by omega)
  have hS5 := dSum512 (.mk .u8 (D ++ [(k : Int)])) ⟨app_in iD hkB, by simp [hD]⟩
  rw [show outL 72 (padS 72 6 (takeL 72 (zL 25, 0) (D ++ [(k : Int)]))) 64 = hsum (D ++ [(k : Int)]) from rfl, show slv .u8 (D ++ [(k : Int)]) = .sl (nums .u8 (D ++ [(k : Int)])) 33 by simp [slv, hD]] at hS5
  have tD : (D ++ [(k : Int)]).take 33 = D ++ [(k : Int)] := List.take_of_length_le (by simp [hD])
  have lR := rhoL_len D k
  have lG := sigL_len D k
  have iR := rhoL_in D k
  have iG := sigL_in D k
  have lH := hsum_len (D ++ [(k : Int)])
  have s1 : slcV 1 (.sl (nums .u8 (hsum (D ++ [(k : Int)]))) 64) none (some (.i .i64 32)) none = some (.sl (nums .u8 (rhoL D k)) 32) := by
    rw [show nums .u8 (rhoL D k) = (nums .u8 (hsum (D ++ [(k : Int)]))).take 32 by simp [nums, rhoL]]; rfl
  have s2 : slcV 1 (.sl (nums .u8 (hsum (D ++ [(k : Int)]))) 64) (some (.i .i64 32)) none none = some (.sl (nums .u8 (sigL D k)) 32) := by
    rw [show nums .u8 (sigL D k) = ((nums .u8 (hsum (D ++ [(k : Int)]))).drop 32).take 32 by
      rw [List.take_of_length_le (by rw [List.length_drop, nums_length, lH]; omega)]; simp [nums, sigL]]
    rfl
  have hE : ekL e k D = pubB e (rhoL D k) (sigL D k) k k ++ rhoL D k := rfl
  have hF : dkL e k D Z = secB e (sigL D k) k k ++ (ekL e k D ++ (sum6 (ekL e k D) ++ Z)) := rfl
  have lE := ekL_len e k D
  have lF := dkL_len e k D Z hZ
  have iE := ekL_in e k D
  have hpt : List.take 5 (List.drop (n * 5) ksets) = five k e a b c := by
    rw [← hk]
    have : n = 0 ∨ n = 1 ∨ n = 2 := by omega
    rcases this with rfl | rfl | rfl <;> rfl
  have h15 : ¬ 15 ≤ n * 5 := by omega
  generalize ekL e k D = EK at *
  generalize dkL e k D Z = DK at *
  generalize rhoL D k = R at *
  generalize sigL D k = G at *
  generalize hsum (D ++ [(k : Int)]) = H at *
  have w1 : IntKind.u8.wrap (k : Int) = k := by show (k : Int) % 256 = k; omega
  have hRL : IsL .u8 (.sl (nums .u8 R) 32) R := .inl (by show _ = AV.sl _ _; rw [lR])
  have hGL : IsL .u8 (.sl (nums .u8 G) 32) G := .inl (by show _ = AV.sl _ _; rw [lG])
  have bR : Bys R := ⟨iR, by omega⟩
  have bG : Bys G := ⟨iG, by omega⟩
  have hM := dMatrix hRL bR (by omega) (k := k) (by omega)
  have lM := matM_len R k k
  have gM := fun {i : Nat} (h : i < k) => matM_get R k h
  generalize matM R k k = M at *
  have tM : M.take k = M := List.take_of_length_le (by omega)
  have hn3 : (n : Int).toNat = n := Int.toNat_natCast _
  have hn4 : (n : Int) < 3 := by omega
  have lks : ksets.length = 15 := rfl
  rw [hD] at hBy
  unfold five at hpt
  simp (disch := first | assumption | omega | (simp only [List.length_cons, List.length_nil, List.length_set, List.length_append, List.length_replicate, List.length_map, List.length_range, List.length_take, List.length_drop, nums_length, bools_length, vecs_length]; first | done | omega)) [A9, h0, h1, hl, dSets, dRing, hBy, hS5, tD, s1, hM, tM, w1, hpt, h15, hn3, hn4, lks]
  refine w_heads k (fun i => ⟨[(17, .i .i64 i), (16, .rs 16 0 i 1), (15, .rs 15 0 i 1), (14, .sl M k), (13, .sl (nums .u8 R) 32), (12, .sl (nums .u8 H) 64), (11, .rf 11 0), (10, .el [.i .i64 k, .i .i64 e, .i .i64 a, .i .i64 b, .i .i64 c] 0), (2, y)], [(16, vs (smV e G k i)), (15, vs (smV e G 0 i)), (11, [.i .i64 3329, .i .i64 256])]⟩) (by simp (disch := first | assumption | omega | (simp only [List.length_cons, List.length_nil, List.length_set, List.length_append, List.length_replicate, List.length_map, List.length_range, List.length_take, List.length_drop, nums_length, bools_length, vecs_length]; first | done | omega)) [smV, vs]) ?_ ?_
  · intro i hi
    have w2 : IntKind.i64.wrap ((i : Int) + 1) = (i : Int) + 1 := i64_in _ (by omega)
    have w3 : IntKind.i64.wrap ((k : Int) + (i : Int)) = (k : Int) + i := i64_in _ (by omega)
    have hlt : (i : Int) < (k : Int) := by omega
    have p1 := dPrf he hGL bG (n := (i : Int)) (by omega) (by omega)
    have p2 := dPrf he hGL bG (n := (k : Int) + (i : Int)) (by omega) (by omega)
    have l1 : (vs (smV e G 0 i)).length = i := by rw [vs_len, smV_len]
    have l2 : (vs (smV e G k i)).length = i := by rw [vs_len, smV_len]
    rw [smV_succ, smV_succ, vs_app, vs_app, show ((0 : Nat) : Int) + (i : Int) = i by omega, show vs [smL e G (i : Int)] = [.sl (nums .i64 (smL e G (i : Int))) 256] from rfl, show vs [smL e G ((k : Int) + (i : Int))] = [.sl (nums .i64 (smL e G ((k : Int) + (i : Int)))) 256] from rfl]
    have f1 := (Vec.sm (e := e) (by omega) G (i : Int)).len
    have f2 := (Vec.sm (e := e) (by omega) G ((k : Int) + (i : Int))).len
    generalize smL e G (i : Int) = S1 at *
    generalize smL e G ((k : Int) + (i : Int)) = S2 at *
    generalize vs (smV e G 0 i) = V1 at *
    generalize vs (smV e G k i) = V2 at *
    clear hE hF lE lF iE iD iZ bR bG iR iG hM hl hBy hS5
    simp (disch := first | assumption | omega | (simp only [List.length_cons, List.length_nil, List.length_set, List.length_append, List.length_replicate, List.length_map, List.length_range, List.length_take, List.length_drop, nums_length, bools_length, vecs_length]; first | done | omega)) [hlt, w2, w3, p1, p2, s2]
  · have v1 := smV_vec (e := e) (by omega) G 0 k
    have v2 := smV_vec (e := e) (by omega) G k k
    have t1 := dTos v1 (by rw [smV_len]; omega)
    have t2 := dTos v2 (by rw [smV_len]; omega)
    rw [smV_len] at t1 t2
    have l1 : (vs (smV e G 0 k)).length = k := by rw [vs_len, smV_len]
    have l2 : (vs (smV e G k k)).length = k := by rw [vs_len, smV_len]
    have l3 : (vs (tos (smV e G 0 k))).length = k := by rw [vs_len, tos, List.length_map, smV_len]
    have l4 : (vs (tos (smV e G k k))).length = k := by rw [vs_len, tos, List.length_map, smV_len]
    rw [tos_sec] at t1 l3
    have q1 : (vs (smV e G 0 k)).take k = vs (smV e G 0 k) := List.take_of_length_le (by omega)
    have q2 : (vs (smV e G k k)).take k = vs (smV e G k k) := List.take_of_length_le (by omega)
    have q3 : (vs (secV e G k)).take k = vs (secV e G k) := List.take_of_length_le (by omega)
    have q4 : (vs (tos (smV e G k k))).take k = vs (tos (smV e G k k)) := List.take_of_length_le (by omega)
    simp (disch := first | assumption | omega | (simp only [List.length_cons, List.length_nil, List.length_set, List.length_append, List.length_replicate, List.length_map, List.length_range, List.length_take, List.length_drop, nums_length, bools_length, vecs_length]; first | done | omega)) [t1, t2, q1, q2, q3, q4]
    refine w_heads k (fun i => ⟨[(22, .i .i64 i), (21, .rs 21 0 (384 * i) 1), (20, .rs 20 0 (384 * i) 1), (19, .sl (vs (tos (smV e G k k))) k), (18, .sl (vs (secV e G k)) k), (14, .sl M k), (13, .sl (nums .u8 R) 32), (11, .rf 11 0), (10, .el [.i .i64 k, .i .i64 e, .i .i64 a, .i .i64 b, .i .i64 c] 0), (2, y)], [(21, nums .u8 (secB e G k i)), (20, nums .u8 (pubB e R G k i)), (11, [.i .i64 3329, .i .i64 256])]⟩) (by simp (disch := first | assumption | omega | (simp only [List.length_cons, List.length_nil, List.length_set, List.length_append, List.length_replicate, List.length_map, List.length_range, List.length_take, List.length_drop, nums_length, bools_length, vecs_length]; first | done | omega)) [secB, pubB, nums_nil]) ?_ ?_
    · intro i hi
      have w2 : IntKind.i64.wrap ((i : Int) + 1) = (i : Int) + 1 := i64_in _ (by omega)
      have hlt : (i : Int) < (k : Int) := by omega
      have tk : (i : Int).toNat = i := Int.toNat_natCast _
      have gMi := gM hi
      have gT := tos_get e G k hi
      have gS := vs_get (A := secV e G k) (k := i) (by rw [secV_len]; exact hi)
      have vG := vec_get (secV_vec e G k) (k := i) (by rw [secV_len]; exact hi)
      have vT := Vec.to (smL e G ((k : Int) + (i : Int)))
      have hDt := dDot (A := rowM R i k) (B := secV e G k) (rowM_vec iR (by omega) (by omega) (by omega)) (secV_vec e G k) (by rw [secV_len, rowM_len]) (by rw [rowM_len]; omega)
      rw [rowM_len] at hDt
      have vD := dotTo_vec (rowM R i k) (secV e G k) k
      have hAd := fAdd 3329 256 vD.isL vT.isL vD.bad vT.bad
      rw [vD.len, show zipTo (fun a b => (a + b) % 3329) (dotTo (rowM R i k) (secV e G k) k) (toL 3329 256 (smL e G ((k : Int) + (i : Int)))) = pubV e R G k i from rfl] at hAd
      have vP := pubV_vec e R G k i
      have hPk := dPack vP.isL vP
      have hPs := dPack vG.isL vG
      rw [secB, pubB]
      have m1 := secB_len e G k i
      have m2 := pubB_len e R G k i
      have m3 := vecB_len (pubV e R G k i)
      have m4 := vecB_len ((secV e G k).getD i [])
      have e1 : 384 * (i + 1) = 384 * i + 384 := by omega
      rw [e1]
      generalize vecB (pubV e R G k i) = VP at *
      generalize vecB ((secV e G k).getD i []) = VG at *
      generalize pubV e R G k i = P at *
      generalize (secV e G k).getD i [] = S1 at *
      generalize dotTo (rowM R i k) (secV e G k) k = DT at *
      generalize toL 3329 256 (smL e G ((k : Int) + (i : Int))) = T at *
      generalize vs (secV e G k) = V at *
      generalize vs (tos (smV e G k k)) = W at *
      generalize vs (rowM R i k) = RR at *
      generalize secB e G k i = SB at *
      generalize pubB e R G k i = PB at *
      have f2 := vT.len
      have f3 := vD.len
      have f4 := vP.len
      have f5 := vG.len
      clear hE hF lE lF iE iD iZ bR bG iR iG vT vD vP vG hM gM t1 t2 q1 q2 hBy hS5 hl
      simp (disch := first | assumption | omega | (simp only [List.length_cons, List.length_nil, List.length_set, List.length_append, List.length_replicate, List.length_map, List.length_range, List.length_take, List.length_drop, nums_length, bools_length, vecs_length]; first | done | omega)) [hlt, w2, tk, gMi, gT, gS, hDt, hAd, hPk, hPs, ← nums_append]
    · have m1 := secB_len e G k k
      have m2 := pubB_len e R G k k
      have hSm := dSum256 (.mk .u8 EK) ⟨iE, by omega⟩
      rw [show outL 136 (padS 136 6 (takeL 136 (zL 25, 0) EK)) 32 = sum6 EK from rfl, show slv .u8 EK = .sl (nums .u8 EK) (384 * k + 32) by show AV.sl _ _ = _; rw [lE]] at hSm
      have m3 := sum6_len EK
      rw [show slv .u8 EK = .sl (nums .u8 EK) (384 * k + 32) by show AV.sl _ _ = _; rw [lE]]
      have sl := fun (l : List (Nat × List AV)) (d : Nat) => src_isL hy l d
      rw [hZ] at sl
      generalize sum6 EK = SE at *
      generalize secB e G k k = SB at *
      generalize pubB e R G k k = PB at *
      have hE2 : nums .u8 PB ++ nums .u8 R = nums .u8 EK := by rw [nums_append, ← hE]
      have hE4 : SB ++ (EK ++ (SE ++ Z)) = DK := hF.symm
      have hE3 : nums .u8 SB ++ (nums .u8 EK ++ (nums .u8 SE ++ nums .u8 Z)) = nums .u8 DK := by rw [nums_append, nums_append, nums_append, ← hF]
      clear iE iD iZ bR bG iR iG hM gM hE hF hl hBy hS5
      have t2 : (nums .u8 EK).take (384 * k + 32) = nums .u8 EK := List.take_of_length_le (by rw [nums_length]; omega)
      have e1 : 384 * k + (384 * k + 32) + 32 + 32 = 768 * k + 96 := by omega
      simp (disch := first | assumption | omega | (simp only [List.length_cons, List.length_nil, List.length_set, List.length_append, List.length_replicate, List.length_map, List.length_range, List.length_take, List.length_drop, nums_length, bools_length, vecs_length]; first | done | omega)) [hSm, hE2, t2, sl, List.append_assoc, hE3, hE4, e1]
end Zab.YtjnomoefbffpoaaGreatDoorB
namespace Zab.YtjnomoefbffpoaaGreatDoorB
open Go
open Go.IntWalk (i64_in)
set_option maxRecDepth 100000
set_option linter.unusedSimpArgs false
set_option linter.unusedVariables false
attribute [-simp] getElem?_pos
attribute [local simp] sees_nil sees_rf sees_i sees_sl sees_z sees_rs sees_fl
theorem pKeysN {s : Int} (h : s < 0 ∨ 3 ≤ s) {x y : AV} (fx : x.flat = true) (fy : y.flat = true) : FF tab 8 [.i .i64 s, x, y] = some ⟨.tp [.z, .z, .er 1], []⟩ := by
  refine call_by (A := A8) rfl rfl ?_
  have hA := pAskN h x y fx fy
  unfold five at hA
  simp (disch := first | assumption | omega | (simp only [List.length_cons, List.length_nil, List.length_set, List.length_append, List.length_replicate, List.length_map, List.length_range, List.length_take, List.length_drop, nums_length, bools_length, vecs_length]; first | done | omega)) [A8, hA]
theorem pKeysL {n : Nat} (hn : n < 3) {x y : AV} {D Z : List Int} (hx : IsL .u8 x D) (hy : IsL .u8 y Z) (h : ¬ (D.length = 32 ∧ Z.length = 32)) : FF tab 8 [.i .i64 n, x, y] = some ⟨.tp [.z, .z, .er 2], []⟩ := by
  refine call_by (A := A8) rfl rfl ?_
  have fx := hx.flat
  have fy := hy.flat
  have hA := pAsk hn hx hy
  rw [if_neg h] at hA
  unfold five at hA
  simp (disch := first | assumption | omega | (simp only [List.length_cons, List.length_nil, List.length_set, List.length_append, List.length_replicate, List.length_map, List.length_range, List.length_take, List.length_drop, nums_length, bools_length, vecs_length]; first | done | omega)) [A8, hA]
theorem kset_of {n : Nat} (hn : n < 3) : ∃ (k e : Nat) (a b c : Int), kset n = five k e a b c ∧ 2 ≤ k ∧ k ≤ 4 ∧ (e = 2 ∨ e = 3) := by
  have : n = 0 ∨ n = 1 ∨ n = 2 := by omega
  rcases this with rfl | rfl | rfl
  · exact ⟨2, 3, _, _, _, rfl, by omega, by omega, .inr rfl⟩
  · exact ⟨3, 2, _, _, _, rfl, by omega, by omega, .inl rfl⟩
  · exact ⟨4, 2, _, _, _, rfl, by omega, by omega, .inl rfl⟩
theorem nil_is9 : FF tab 15 [.nl, .i .i64 0] = some ⟨.b true, []⟩ := SeeIs (c := 0) (by simp [Code]) 0
theorem kcs : ksets = [.i .i64 2, .i .i64 3, .i .i64 2, .i .i64 10, .i .i64 4, .i .i64 3, .i .i64 2, .i .i64 2, .i .i64 10, .i .i64 4, .i .i64 4, .i .i64 2, .i .i64 2, .i .i64 11, .i .i64 5] := rfl
set_option maxHeartbeats 8000000 in
theorem KemKeys (s : Int) (hs : inK .i64 s) (x : AV) (D : List Int) (hxN : IsNums .u8 x D) (y : AV) (Z : List Int) (hyN : IsNums .u8 y Z) : FF tab 3 [.i .i64 s, x, y] = some ⟨.b true, []⟩ := by
  refine call_by (A := A3) rfl rfl ?_
  have hx := hxN.isL
  have hy := hyN.isL
  have fx := hx.flat
  have fy := hy.flat
  have lx := lenV_isL hx
  have ly := lenV_isL hy
  by_cases g1 : (40 : Int) < D.length
  · simp (disch := first | assumption | omega | (simp only [List.length_cons, List.length_nil, List.length_set, List.length_append, List.length_replicate, List.length_map, List.length_range, List.length_take, List.length_drop, nums_length, bools_length, vecs_length]; first | done | omega)) [A3, first10, lx, g1]
  by_cases g2 : (40 : Int) < Z.length
  · simp (disch := first | assumption | omega | (simp only [List.length_cons, List.length_nil, List.length_set, List.length_append, List.length_replicate, List.length_map, List.length_range, List.length_take, List.length_drop, nums_length, bools_length, vecs_length]; first | done | omega)) [A3, first10, lx, ly, g1, g2]
  obtain ⟨p, q, r, z1, z2⟩ := ksizes s
  have hS1 := pSets
  have hS2 := dSets
  have w1 : IntKind.i64.wrap 1 = 1 := rfl
  have w2 : IntKind.i64.wrap 2 = 2 := rfl
  have w3 : IntKind.i64.wrap 3 = 3 := rfl
  by_cases hb : s < 0 ∨ 3 ≤ s
  · have hP := pKeysN hb fx fy
    have hQ := dKeysN hb fx fy
    have sm1 := SameBytes (.none .u8) (.none .u8) (by simp)
    rw [decide_eq_true rfl] at sm1
    have sm2 := sm1
    have is1 := range_is9
    simp (disch := first | assumption | omega | (simp only [List.length_cons, List.length_nil, List.length_set, List.length_append, List.length_replicate, List.length_map, List.length_range, List.length_take, List.length_drop, nums_length, bools_length, vecs_length]; first | done | omega)) [A3, first10, lx, ly, g1, g2, hP, hQ, z1, z2, hS1, hS2]
    refine w_heads 3 (fun k => ⟨[(22, .i .i64 (k : Int)), (21, .sl ksets 3), (20, .sl ksets 3), (19, .i .i64 r), (18, .i .i64 q), (17, .i .i64 p), (16, .i .i64 r), (15, .i .i64 q), (14, .i .i64 p), (13, .i .i64 101), (12, .z), (11, .z), (10, .er 1), (9, .z), (8, .z), (7, .b true)], []⟩) (by simp (disch := first | assumption | omega | (simp only [List.length_cons, List.length_nil, List.length_set, List.length_append, List.length_replicate, List.length_map, List.length_range, List.length_take, List.length_drop, nums_length, bools_length, vecs_length]; first | done | omega)) []) ?_ ?_
    · intro k hk
      have : k = 0 ∨ k = 1 ∨ k = 2 := by omega
      rcases this with rfl | rfl | rfl <;> simp (disch := first | assumption | omega | (simp only [List.length_cons, List.length_nil, List.length_set, List.length_append, List.length_replicate, List.length_map, List.length_range, List.length_take, List.length_drop, nums_length, bools_length, vecs_length]; first | done | omega)) [w1, w2, w3, kcs]
    · simp (disch := first | assumption | omega | (simp only [List.length_cons, List.length_nil, List.length_set, List.length_append, List.length_replicate, List.length_map, List.length_range, List.length_take, List.length_drop, nums_length, bools_length, vecs_length]; first | done | omega)) [hP, hQ, sm1, sm2, is1]
  obtain ⟨n, rfl⟩ : ∃ n : Nat, s = n := ⟨s.toNat, by omega⟩
  have hn : n < 3 := by omega
  by_cases hl : D.length = 32 ∧ Z.length = 32
  · obtain ⟨k, e, a, b, c, hk, k2, k4, he⟩ := kset_of hn
    have hP := pKeys hn hk k2 k4 he hx hy hl.1 hl.2 hxN.2 hyN.2
    have hQ := dKeys hn hk k2 k4 he hx hy hl.1 hl.2 hxN.2 hyN.2
    have l1 := ekL_len e k D
    have l2 := dkL_len e k D Z hl.2
    generalize ekL e k D = EK at *
    generalize dkL e k D Z = DK at *
    have sm1 := SameBytes (.mk .u8 EK) (.mk .u8 EK) (by omega)
    have sm2 := SameBytes (.mk .u8 DK) (.mk .u8 DK) (by omega)
    rw [decide_eq_true rfl] at sm1 sm2
    have is1 := nil_is9
    unfold slv at hP hQ sm1 sm2
    rw [l1] at hP hQ sm1
    rw [l2] at hP sm2
    have t1 : (nums .u8 DK).take (768 * k + 96) = nums .u8 DK := List.take_of_length_le (by rw [nums_length]; omega)
    generalize 768 * k + 96 = u at *
    generalize 384 * k + 32 = v at *
    simp (disch := first | assumption | omega | (simp only [List.length_cons, List.length_nil, List.length_set, List.length_append, List.length_replicate, List.length_map, List.length_range, List.length_take, List.length_drop, nums_length, bools_length, vecs_length]; first | done | omega)) [A3, first10, lx, ly, g1, g2, hP, hQ, t1, z1, z2, hS1, hS2]
    refine w_heads 3 (fun k => ⟨[(22, .i .i64 (k : Int)), (21, .sl ksets 3), (20, .sl ksets 3), (19, .i .i64 r), (18, .i .i64 q), (17, .i .i64 p), (16, .i .i64 r), (15, .i .i64 q), (14, .i .i64 p), (13, .i .i64 0), (12, .sl (nums .u8 DK) u), (11, .sl (nums .u8 EK) v), (10, .nl), (9, .sl (nums .u8 DK) u), (8, .sl (nums .u8 EK) v), (7, .b true)], []⟩) (by simp (disch := first | assumption | omega | (simp only [List.length_cons, List.length_nil, List.length_set, List.length_append, List.length_replicate, List.length_map, List.length_range, List.length_take, List.length_drop, nums_length, bools_length, vecs_length]; first | done | omega)) []) ?_ ?_
    · intro k hk
      have : k = 0 ∨ k = 1 ∨ k = 2 := by omega
      rcases this with rfl | rfl | rfl <;> simp (disch := first | assumption | omega | (simp only [List.length_cons, List.length_nil, List.length_set, List.length_append, List.length_replicate, List.length_map, List.length_range, List.length_take, List.length_drop, nums_length, bools_length, vecs_length]; first | done | omega)) [w1, w2, w3, kcs]
    · simp (disch := first | assumption | omega | (simp only [List.length_cons, List.length_nil, List.length_set, List.length_append, List.length_replicate, List.length_map, List.length_range, List.length_take, List.length_drop, nums_length, bools_length, vecs_length]; first | done | omega)) [hP, hQ, t1, sm1, sm2, is1]
  · have hP := pKeysL hn hx hy hl
    have hQ := dKeysL hn hx hy hl
    have sm1 := SameBytes (.none .u8) (.none .u8) (by simp)
    rw [decide_eq_true rfl] at sm1
    have sm2 := sm1
    have is1 := length_is9
    simp (disch := first | assumption | omega | (simp only [List.length_cons, List.length_nil, List.length_set, List.length_append, List.length_replicate, List.length_map, List.length_range, List.length_take, List.length_drop, nums_length, bools_length, vecs_length]; first | done | omega)) [A3, first10, lx, ly, g1, g2, hP, hQ, z1, z2, hS1, hS2]
    refine w_heads 3 (fun k => ⟨[(22, .i .i64 (k : Int)), (21, .sl ksets 3), (20, .sl ksets 3), (19, .i .i64 r), (18, .i .i64 q), (17, .i .i64 p), (16, .i .i64 r), (15, .i .i64 q), (14, .i .i64 p), (13, .i .i64 102), (12, .z), (11, .z), (10, .er 2), (9, .z), (8, .z), (7, .b true)], []⟩) (by simp (disch := first | assumption | omega | (simp only [List.length_cons, List.length_nil, List.length_set, List.length_append, List.length_replicate, List.length_map, List.length_range, List.length_take, List.length_drop, nums_length, bools_length, vecs_length]; first | done | omega)) []) ?_ ?_
    · intro k hk
      have : k = 0 ∨ k = 1 ∨ k = 2 := by omega
      rcases this with rfl | rfl | rfl <;> simp (disch := first | assumption | omega | (simp only [List.length_cons, List.length_nil, List.length_set, List.length_append, List.length_replicate, List.length_map, List.length_range, List.length_take, List.length_drop, nums_length, bools_length, vecs_length]; first | done | omega)) [w1, w2, w3, kcs]
    · simp (disch := first | assumption | omega | (simp only [List.length_cons, List.length_nil, List.length_set, List.length_append, List.length_replicate, List.length_map, List.length_range, List.length_take, List.length_drop, nums_length, bools_length, vecs_length]; first | done | omega)) [hP, hQ, sm1, sm2, is1]
end Zab.YtjnomoefbffpoaaGreatDoorB
namespace Zab.YtjnomoefbffpoaaGreatDoorB
open Go Go.Proofs Go.Proofs.YtjnomoefbffpoaaGreatDoor
set_option maxRecDepth 100000
set_option linter.unusedVariables false
theorem star : "*" ++ "errors.errorString" = "*errors.errorString" := by decide
theorem rowT (u : TypeId) (h : Tryz.prog.typeName? 3 u = some "*errors.errorString") : u = 183 :=
  typeName_ptr_named (nm := "errors.errorString") (by rw [star]; kernel_rfl) (by kernel_rfl) (by decide) u (by rw [star]; exact h)
theorem errT : ErrTypes Tryz.prog "*errors.errorString" 183 200 9 { name := "s", type := 9, offset := 0, embedded := false, tag := "", pkgPath := "errors", byteOffset := 0 } :=
  { row := rowT, ptr := Tryz.underlying183, str := Tryz.underlying200, fty := rfl, fof := rfl, und := Tryz.underlying9, c1 := by kernel_rfl, c2 := by kernel_rfl }
def texts : List (String × Nat × List UInt8) := [
  ("alembic/api.ErrRange", 1, [97, 32, 110, 117, 109, 98, 101, 114, 32, 111, 117, 116, 32, 111, 102, 32, 105, 116, 115, 32, 114, 97, 110, 103, 101]),
  ("alembic/api.ErrLength", 2, [110, 111, 116, 32, 97, 115, 32, 108, 111, 110, 103, 32, 97, 115, 32, 105, 116, 32, 104, 97, 115, 32, 116, 111, 32, 98, 101]),
  ("alembic/api.ErrMany", 3, [116, 111, 111, 32, 109, 97, 110, 121]),
  ("alembic/api.ErrShape", 0, [110, 111, 116, 32, 97, 115, 32, 105, 116, 32, 104, 97, 115, 32, 116, 111, 32, 98, 101]),
  ("alembic/api.ErrNone", 4, [116, 104, 101, 114, 101, 32, 105, 115, 32, 110, 111, 110, 101]),
  ("alembic/api.ErrOp", 5, [110, 111, 32, 115, 117, 99, 104, 32, 116, 104, 105, 110, 103, 32, 116, 111, 32, 100, 111]),
  ("alembic/api.ErrVar", 6, [110, 111, 32, 115, 117, 99, 104, 32, 118, 97, 114, 105, 97, 98, 108, 101]),
  ("alembic/api.ErrSecret", 7, [97, 32, 115, 101, 99, 114, 101, 116, 32, 119, 104, 101, 114, 101, 32, 105, 116, 32, 109, 97, 121, 32, 110, 111, 116, 32, 98, 101]),
  ("alembic/api.ErrLabel", 8, [110, 111, 32, 115, 117, 99, 104, 32, 112, 108, 97, 99, 101]),
  ("alembic/api.ErrFar", 9, [116, 111, 111, 32, 102, 97, 114]),
  ("alembic/api.ErrFuel", 10, [105, 116, 32, 116, 97, 107, 101, 115, 32, 116, 111, 111, 32, 108, 111, 110, 103]),
  ("alembic/api.ErrFault", 11, [119, 104, 101, 114, 101, 32, 116, 104, 101, 114, 101, 32, 105, 115, 32, 110, 111, 116, 104, 105, 110, 103]),
  ("alembic/api.ErrWord", 12, [110, 111, 32, 115, 117, 99, 104, 32, 119, 111, 114, 100]),
  ("alembic/api.ErrNumber", 13, [110, 111, 116, 32, 97, 32, 110, 117, 109, 98, 101, 114])]
def laidL : List (String × DataW Unit) := [("alembic/api.ErrRange", Rows.laid_alembic_api_ErrRange), ("alembic/api.ErrLength", Rows.laid_alembic_api_ErrLength), ("alembic/api.ErrMany", Rows.laid_alembic_api_ErrMany), ("alembic/api.ErrShape", Rows.laid_alembic_api_ErrShape), ("alembic/api.ErrNone", Rows.laid_alembic_api_ErrNone), ("alembic/api.ErrOp", Rows.laid_alembic_api_ErrOp), ("alembic/api.ErrVar", Rows.laid_alembic_api_ErrVar), ("alembic/api.ErrSecret", Rows.laid_alembic_api_ErrSecret), ("alembic/api.ErrLabel", Rows.laid_alembic_api_ErrLabel), ("alembic/api.ErrFar", Rows.laid_alembic_api_ErrFar), ("alembic/api.ErrFuel", Rows.laid_alembic_api_ErrFuel), ("alembic/api.ErrFault", Rows.laid_alembic_api_ErrFault), ("alembic/api.ErrWord", Rows.laid_alembic_api_ErrWord), ("alembic/api.ErrNumber", Rows.laid_alembic_api_ErrNumber)]
theorem texts_in : ∀ x ∈ texts, (x.1, DataW.iface "*errors.errorString" (.ptr (.agg [.lit (.string x.2.2)]))) ∈ laidL := by
  intro x hx
  simp only [texts, List.mem_cons, List.not_mem_nil, or_false] at hx
  rcases hx with rfl | rfl | rfl | rfl | rfl | rfl | rfl | rfl | rfl | rfl | rfl | rfl | rfl | rfl
  · exact List.Mem.head _
  · exact List.Mem.tail _ (List.Mem.head _)
  · exact List.Mem.tail _ (List.Mem.tail _ (List.Mem.head _))
  · exact List.Mem.tail _ (List.Mem.tail _ (List.Mem.tail _ (List.Mem.head _)))
  · exact List.Mem.tail _ (List.Mem.tail _ (List.Mem.tail _ (List.Mem.tail _ (List.Mem.head _))))
  · exact List.Mem.tail _ (List.Mem.tail _ (List.Mem.tail _ (List.Mem.tail _ (List.Mem.tail _ (List.Mem.head _)))))
  · exact List.Mem.tail _ (List.Mem.tail _ (List.Mem.tail _ (List.Mem.tail _ (List.Mem.tail _ (List.Mem.tail _ (List.Mem.head _))))))
  · exact List.Mem.tail _ (List.Mem.tail _ (List.Mem.tail _ (List.Mem.tail _ (List.Mem.tail _ (List.Mem.tail _ (List.Mem.tail _ (List.Mem.head _)))))))
  · exact List.Mem.tail _ (List.Mem.tail _ (List.Mem.tail _ (List.Mem.tail _ (List.Mem.tail _ (List.Mem.tail _ (List.Mem.tail _ (List.Mem.tail _ (List.Mem.head _))))))))
  · exact List.Mem.tail _ (List.Mem.tail _ (List.Mem.tail _ (List.Mem.tail _ (List.Mem.tail _ (List.Mem.tail _ (List.Mem.tail _ (List.Mem.tail _ (List.Mem.tail _ (List.Mem.head _)))))))))
  · exact List.Mem.tail _ (List.Mem.tail _ (List.Mem.tail _ (List.Mem.tail _ (List.Mem.tail _ (List.Mem.tail _ (List.Mem.tail _ (List.Mem.tail _ (List.Mem.tail _ (List.Mem.tail _ (List.Mem.head _))))))))))
  · exact List.Mem.tail _ (List.Mem.tail _ (List.Mem.tail _ (List.Mem.tail _ (List.Mem.tail _ (List.Mem.tail _ (List.Mem.tail _ (List.Mem.tail _ (List.Mem.tail _ (List.Mem.tail _ (List.Mem.tail _ (List.Mem.head _)))))))))))
  · exact List.Mem.tail _ (List.Mem.tail _ (List.Mem.tail _ (List.Mem.tail _ (List.Mem.tail _ (List.Mem.tail _ (List.Mem.tail _ (List.Mem.tail _ (List.Mem.tail _ (List.Mem.tail _ (List.Mem.tail _ (List.Mem.tail _ (List.Mem.head _))))))))))))
  · exact List.Mem.tail _ (List.Mem.tail _ (List.Mem.tail _ (List.Mem.tail _ (List.Mem.tail _ (List.Mem.tail _ (List.Mem.tail _ (List.Mem.tail _ (List.Mem.tail _ (List.Mem.tail _ (List.Mem.tail _ (List.Mem.tail _ (List.Mem.tail _ (List.Mem.head _)))))))))))))
theorem texts_at : ∀ x ∈ texts, Tryz.prog.globalNamed x.1 = some x.2.1 ∧ ∃ ti ms, (Tryz.prog.globals[x.2.1]?).map (·.type) = some ti ∧ Tryz.prog.underlying ti = some (.interface ms) := by
  intro x hx
  simp only [texts, List.mem_cons, List.not_mem_nil, or_false] at hx
  rcases hx with rfl | rfl | rfl | rfl | rfl | rfl | rfl | rfl | rfl | rfl | rfl | rfl | rfl | rfl
  · exact ⟨by kernel_rfl, 25, _, by kernel_rfl, Tryz.underlying25⟩
  · exact ⟨by kernel_rfl, 25, _, by kernel_rfl, Tryz.underlying25⟩
  · exact ⟨by kernel_rfl, 25, _, by kernel_rfl, Tryz.underlying25⟩
  · exact ⟨by kernel_rfl, 25, _, by kernel_rfl, Tryz.underlying25⟩
  · exact ⟨by kernel_rfl, 25, _, by kernel_rfl, Tryz.underlying25⟩
  · exact ⟨by kernel_rfl, 25, _, by kernel_rfl, Tryz.underlying25⟩
  · exact ⟨by kernel_rfl, 25, _, by kernel_rfl, Tryz.underlying25⟩
  · exact ⟨by kernel_rfl, 25, _, by kernel_rfl, Tryz.underlying25⟩
  · exact ⟨by kernel_rfl, 25, _, by kernel_rfl, Tryz.underlying25⟩
  · exact ⟨by kernel_rfl, 25, _, by kernel_rfl, Tryz.underlying25⟩
  · exact ⟨by kernel_rfl, 25, _, by kernel_rfl, Tryz.underlying25⟩
  · exact ⟨by kernel_rfl, 25, _, by kernel_rfl, Tryz.underlying25⟩
  · exact ⟨by kernel_rfl, 25, _, by kernel_rfl, Tryz.underlying25⟩
  · exact ⟨by kernel_rfl, 25, _, by kernel_rfl, Tryz.underlying25⟩
theorem texts_apart : ∀ x ∈ texts, ∀ y ∈ texts, x.2.2 = y.2.2 → x.2.1 = y.2.1 := by decide +kernel
theorem laidOut : laidOutB Tryz.prog = true := by kernel_rfl
@[reducible] noncomputable def envS (sent : Nat → Option (Nat × Nat)) : Env := ⟨Tryz.prog, sent, 183⟩
theorem lawEnv {W : World} (hL : laidMet Tryz.prog laidL W) : ∃ sent, ∀ {f : Nat} {args : List AV} {t : Bool}, FF tab f args = some ⟨.b t, []⟩ → ∀ (cargs : Array Value), cargs.size = args.length →
    (∀ j (h1 : j < args.length) (h2 : j < cargs.toList.length), V1 (envS sent) args.length W (Old W) (fun _ => 0) (fun _ => 0) args[j] cargs.toList[j]) →
    Calls Tryz.prog f cargs W fun e W' => e = .returned (.bool t) ∧ RowKit.Below W.heap.size W W' := by
  obtain ⟨sent, hG, hS⟩ := gokN errT hL texts texts_in texts_at texts_apart
  have hE : EnvOk (envS sent) [0, 1, 2, 3, 4, 5, 6, 7, 8, 9, 10, 11, 12, 13] := envOkN Tryz.underlying183 (by kernel_rfl) (by kernel_rfl) Tryz.checked.mixed (fun g hg => by
    have hm := memb_iff.1 hg
    have all : ∀ g ∈ [0, 1, 2, 3, 4, 5, 6, 7, 8, 9, 10, 11, 12, 13], ∃ x ∈ texts, x.2.1 = g := by decide +kernel
    obtain ⟨x, hx, e⟩ := all g hm
    rw [← e]; exact hS x hx)
  refine ⟨sent, fun h cargs hsz hv => ?_⟩
  exact law_calls (E := envS sent) hE htab h hG (noOps_rep (by simpa using hsz) hv) hsz (fun j h1 h2 => hv j h1 (by simpa using h2))
noncomputable def low : Nat := (World.holding Tryz.prog default ⟨#[], #[], []⟩).heap.size
noncomputable def pt (i : Nat) : Obj → Obj
  | .cells _ t frozen => .cells #[.iface 183 (.pointer (some ⟨low + i, 0, none⟩))] t frozen
  | o => o
noncomputable def laidWorld (os : Os) : World :=
  let w0 := World.holding Tryz.prog os ⟨#[.cells #[.string { data := #[97, 32, 110, 117, 109, 98, 101, 114, 32, 111, 117, 116, 32, 111, 102, 32, 105, 116, 115, 32, 114, 97, 110, 103, 101] }] 200, .cells #[.string { data := #[110, 111, 116, 32, 97, 115, 32, 108, 111, 110, 103, 32, 97, 115, 32, 105, 116, 32, 104, 97, 115, 32, 116, 111, 32, 98, 101] }] 200, .cells #[.string { data := #[116, 111, 111, 32, 109, 97, 110, 121] }] 200, .cells #[.string { data := #[110, 111, 116, 32, 97, 115, 32, 105, 116, 32, 104, 97, 115, 32, 116, 111, 32, 98, 101] }] 200, .cells #[.string { data := #[116, 104, 101, 114, 101, 32, 105, 115, 32, 110, 111, 110, 101] }] 200, .cells #[.string { data := #[110, 111, 32, 115, 117, 99, 104, 32, 116, 104, 105, 110, 103, 32, 116, 111, 32, 100, 111] }] 200, .cells #[.string { data := #[110, 111, 32, 115, 117, 99, 104, 32, 118, 97, 114, 105, 97, 98, 108, 101] }] 200, .cells #[.string { data := #[97, 32, 115, 101, 99, 114, 101, 116, 32, 119, 104, 101, 114, 101, 32, 105, 116, 32, 109, 97, 121, 32, 110, 111, 116, 32, 98, 101] }] 200, .cells #[.string { data := #[110, 111, 32, 115, 117, 99, 104, 32, 112, 108, 97, 99, 101] }] 200, .cells #[.string { data := #[116, 111, 111, 32, 102, 97, 114] }] 200, .cells #[.string { data := #[105, 116, 32, 116, 97, 107, 101, 115, 32, 116, 111, 111, 32, 108, 111, 110, 103] }] 200, .cells #[.string { data := #[119, 104, 101, 114, 101, 32, 116, 104, 101, 114, 101, 32, 105, 115, 32, 110, 111, 116, 104, 105, 110, 103] }] 200, .cells #[.string { data := #[110, 111, 32, 115, 117, 99, 104, 32, 119, 111, 114, 100] }] 200, .cells #[.string { data := #[110, 111, 116, 32, 97, 32, 110, 117, 109, 98, 101, 114] }] 200], #[], []⟩
  { w0 with heap := ((((((((((((((w0.heap).modify 1 (pt 0)).modify 2 (pt 1)).modify 3 (pt 2)).modify 0 (pt 3)).modify 4 (pt 4)).modify 5 (pt 5)).modify 6 (pt 6)).modify 7 (pt 7)).modify 8 (pt 8)).modify 9 (pt 9)).modify 10 (pt 10)).modify 11 (pt 11)).modify 12 (pt 12)).modify 13 (pt 13) }
theorem laidWorld_met (os : Os) (args : Array Value) : laidMetH Tryz.prog laidL ((laidWorld os).forCall (fun _ _ => 0) ⟨#[], args, []⟩).memory :=
  laidMet_of_run (ps := [.cell 1 0, .cell (low + 0) 0, .cell 2 0, .cell (low + 1) 0, .cell 3 0, .cell (low + 2) 0, .cell 0 0, .cell (low + 3) 0, .cell 4 0, .cell (low + 4) 0, .cell 5 0, .cell (low + 5) 0, .cell 6 0, .cell (low + 6) 0, .cell 7 0, .cell (low + 7) 0, .cell 8 0, .cell (low + 8) 0, .cell 9 0, .cell (low + 9) 0, .cell 10 0, .cell (low + 10) 0, .cell 11 0, .cell (low + 11) 0, .cell 12 0, .cell (low + 12) 0, .cell 13 0, .cell (low + 13) 0]) 8 (by kernel_rfl) (by kernel_rfl) (by kernel_rfl)
end Zab.YtjnomoefbffpoaaGreatDoorB
