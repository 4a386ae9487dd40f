/- Numbers of a ball, as the program draws them; how many are not 0. -/
import Derived.Test.YtngoidkconngmaaDoorZabY
import Derived.Test.YtngoidkconngmaaDoorZabG8
import Derived.Test.YtngoidkconngmaaDoorGStr2
namespace Zab.YtngoidkconngmaaDoorG
open Go
open Go.IntWalk (i64_in)
set_option maxRecDepth 100000
set_option linter.unusedSimpArgs false
set_option linter.unusedVariables false
attribute [-simp] getElem?_pos

theorem weight {x : AV} {L : List Int} (hx : IsL .i64 x L) (hs : L.length < 9223372036854775807) : FF tab 60 [x] = some ⟨.i .i64 (cnt L L.length), []⟩ := by
  refine call_by (A := A60) rfl rfl ?_
  have fx := hx.flat
  have lx := lenV_isL hx
  simp (disch := first | assumption | omega | (simp only [List.length_cons, List.length_nil, List.length_set, List.length_append, List.length_replicate, List.length_map, List.length_range, List.length_take, List.length_drop, nums_length, bools_length, vecs_length]; first | done | omega)) [A60]
  refine w_heads L.length (fun k => ⟨[(4, .i .i64 k), (3, .i .i64 (cnt L k)), (0, x)], []⟩) (by simp (disch := first | assumption | omega | (simp only [List.length_cons, List.length_nil, List.length_set, List.length_append, List.length_replicate, List.length_map, List.length_range, List.length_take, List.length_drop, nums_length, bools_length, vecs_length]; first | done | omega)) [cnt]) ?_ ?_
  · intro k hk
    have w1 : IntKind.i64.wrap ((k : Int) + 1) = (k : Int) + 1 := i64_in _ (by omega)
    have hc := cnt_le L k
    have w2 : IntKind.i64.wrap ((cnt L k : Int) + 1) = (cnt L k : Int) + 1 := i64_in _ (by omega)
    have hkn : (k : Int).toNat = k := Int.toNat_natCast _
    have ix := ixSV_isL hx (k' := .i64) (j := (k : Int)) (by omega) (by omega)
    rw [hkn] at ix
    have gx := nums_get (k := .i64) (L := L) (j := k) (by omega)
    have hlt : (k : Int) < (L.length : Int) := by omega
    by_cases h0 : ni L k = 0
    · have e1 : cnt L (k + 1) = cnt L k := by rw [cnt, if_pos h0]
      rw [e1]
      generalize cnt L k = c at *
      generalize hT : (k : Int) = T at *
      simp (disch := first | assumption | omega | (simp only [List.length_cons, List.length_nil, List.length_set, List.length_append, List.length_replicate, List.length_map, List.length_range, List.length_take, List.length_drop, nums_length, bools_length, vecs_length]; first | done | omega)) [lx, ix, gx, h0, hlt, w1, hT]
    · have e1 : cnt L (k + 1) = cnt L k + 1 := by rw [cnt, if_neg h0]
      rw [e1]
      generalize cnt L k = c at *
      generalize ni L k = y at *
      generalize hT : (k : Int) = T at *
      simp (disch := first | assumption | omega | (simp only [List.length_cons, List.length_nil, List.length_set, List.length_append, List.length_replicate, List.length_map, List.length_range, List.length_take, List.length_drop, nums_length, bools_length, vecs_length]; first | done | omega)) [lx, ix, gx, h0, hlt, w1, w2, hT]
  · simp (disch := first | assumption | omega | (simp only [List.length_cons, List.length_nil, List.length_set, List.length_append, List.length_replicate, List.length_map, List.length_range, List.length_take, List.length_drop, nums_length, bools_length, vecs_length]; first | done | omega)) [lx]

set_option maxHeartbeats 8000000 in
theorem pBall {x : AV} {L : List Int} (hx : IsL .u8 x L) (hB : Bys L) {tau : Nat} (t0 : 1 ≤ tau) (t1 : tau ≤ 64) {f : Nat → Int} (hf : f = bt 136 (padS 136 31 (takeL 136 (zL 25, 0) L)))
    {p : Nat → Nat} (hp : ∀ m, m < tau → IsJ f (256 - tau + m) (bq p m) (p m)) :
    FF tab 48 [.i .i64 tau, x] = some ⟨.tp [.os (nums .i64 (bo f (sgn f 8) tau p tau)) 256 1, .nl], []⟩ := by
  refine call_by (A := A48) rfl rfl ?_
  have fx := hx.flat
  have hO := pOpen (R := 136) (by omega) (by omega) (by omega) hx hB (IsL.none .u8) ⟨by simp, by simp⟩
  rw [List.append_nil, show ((136 : Nat) : Int) = 136 from rfl] at hO
  have hZ : (zL 25).length = 25 := zL_len 25
  obtain ⟨a1, a2⟩ := takeL_ok (R := 136) L (S := (zL 25, 0)) hZ (by show 0 < 136; omega)
  generalize takeL 136 (zL 25, 0) L = T at *
  have hn := pNext a1 (by omega) (by omega) a2 (X := 31) (by omega) (by omega)
  have hb := bt_in 136 (padS 136 31 T)
  rw [← hf] at hn hb
  clear hf
  have fb := strB_flat 136 31 T
  have f0 := fb 0
  have e0 : strB 136 31 T 0 = .z := rfl
  have c1 : ¬ (tau : Int) < 1 := by omega
  have c2 : ¬ (64 : Int) < tau := by omega
  simp (disch := first | assumption | omega | (simp only [List.length_cons, List.length_nil, List.length_set, List.length_append, List.length_replicate, List.length_map, List.length_range, List.length_take, List.length_drop, nums_length, bools_length, vecs_length]; first | done | omega)) [A48, hO, c1, c2]
  -- the signs
  refine w_heads 8 (fun k => ⟨[(21, .i .i64 k), (7, .i .u64 (iv (sgn f k))), (6, .rf 1000000000020 0), (0, .i .i64 tau)], [(1000000000020, [.rf 1000000020 0, strB 136 31 T k]), (1000000020, strC 136 31 T k)]⟩) (by simp (disch := first | assumption | omega | (simp only [List.length_cons, List.length_nil, List.length_set, List.length_append, List.length_replicate, List.length_map, List.length_range, List.length_take, List.length_drop, nums_length, bools_length, vecs_length]; first | done | omega)) [sgn, e0, show iv 0#64 = 0 from rfl]) ?_ ?_
  · intro k hk
    obtain ⟨u0, u1⟩ := hb k
    have n0 := hn k
    have g0 := fb k
    have g1 := fb (k + 1)
    have es : sgn f (k + 1) = sgn f k ||| (BitVec.ofInt 64 (f k) <<< (8 * k)) := rfl
    obtain ⟨y2, y3⟩ := shl_byte (f k) u0 u1 (n := 8 * k) (by omega)
    have wk : IntKind.i64.wrap ((k : Int) + 1) = (k : Int) + 1 := i64_in _ (by omega)
    have w8 : IntKind.i64.wrap (8 * (k : Int)) = ((8 * k : Nat) : Int) := by rw [i64_in _ (by omega)]; omega
    have ho := bitV_or (sgn f k) (BitVec.ofInt 64 (f k) <<< (8 * k))
    have hlt : (k : Int) < 8 := by omega
    rw [es]
    generalize sgn f k ||| (BitVec.ofInt 64 (f k) <<< (8 * k)) = V at *
    generalize BitVec.ofInt 64 (f k) <<< (8 * k) = U at *
    generalize sgn f k = S at *
    generalize f k = y at *
    generalize ((8 * k : Nat) : Int) = E at *
    generalize strB 136 31 T k = B0 at *
    generalize strB 136 31 T (k + 1) = B1 at *
    generalize strC 136 31 T k = C0 at *
    generalize strC 136 31 T (k + 1) = C1 at *
    generalize hT' : (k : Int) = K at *
    simp (disch := first | assumption | omega | (simp only [List.length_cons, List.length_nil, List.length_set, List.length_append, List.length_replicate, List.length_map, List.length_range, List.length_take, List.length_drop, nums_length, bools_length, vecs_length]; first | done | omega)) [hlt, n0, y2, y3, wk, w8, ho, hT', -shiftV_shl, -shiftV_shr]
  · generalize sgn f 8 = W at *
    have g8 := fb 8
    have wt : IntKind.i64.wrap (256 - (tau : Int)) = ((256 - tau : Nat) : Int) := by rw [i64_in _ (by omega)]; omega
    simp (disch := first | assumption | omega | (simp only [List.length_cons, List.length_nil, List.length_set, List.length_append, List.length_replicate, List.length_map, List.length_range, List.length_take, List.length_drop, nums_length, bools_length, vecs_length]; first | done | omega)) [wt]
    refine w_heads tau (fun m => ⟨[(10, .i .i64 ((256 - tau + m : Nat) : Int)), (9, .rs 33 0 256 1), (7, .i .u64 (iv (W >>> m))), (6, .rf 1000000000020 0)], [(1000000000020, [.rf 1000000020 0, strB 136 31 T (bq p m)]), (1000000020, strC 136 31 T (bq p m)), (33, nums .i64 (bo f W tau p m))]⟩) (by simp (disch := first | assumption | omega | (simp only [List.length_cons, List.length_nil, List.length_set, List.length_append, List.length_replicate, List.length_map, List.length_range, List.length_take, List.length_drop, nums_length, bools_length, vecs_length]; first | done | omega)) [bq, bo, nums_zrep, show W >>> 0 = W from BitVec.ushiftRight_zero W]) ?_ ?_
    · intro m hm
      have hj := hp m hm
      have hbl := bo_len f W tau p m
      have eo : bo f W tau p (m + 1) = ((bo f W tau p m).set (256 - tau + m) (ni (bo f W tau p m) (f (p m)).toNat)).set (f (p m)).toNat (sv (W >>> m)) := rfl
      have eq : bq p (m + 1) = p m + 1 := rfl
      rw [eo, eq]
      have hi : 256 - tau + m < 256 := by omega
      rw [show 256 - tau + (m + 1) = 256 - tau + m + 1 by omega]
      generalize 256 - tau + m = i at *
      generalize bo f W tau p m = O at *
      generalize bq p m = q at *
      obtain ⟨j1, j2, j3⟩ := hj
      generalize p m = P at *
      have hi2 : (i : Int) < 256 := by omega
      obtain ⟨u0, u1⟩ := hb q
      have n0 := hn q
      have g0 := fb q
      have g1 := fb (q + 1)
      have wy : IntKind.i64.wrap (f q) = f q := i64_in _ (by omega)
      have hw : W >>> (m + 1) = (W >>> m) >>> 1 := by rw [BitVec.shiftRight_add]
      rw [hw]
      generalize W >>> m = V at *
      simp (disch := first | assumption | omega | (simp only [List.length_cons, List.length_nil, List.length_set, List.length_append, List.length_replicate, List.length_map, List.length_range, List.length_take, List.length_drop, nums_length, bools_length, vecs_length]; first | done | omega)) [hi2, n0, wy]
      refine w_heads (P - q) (fun k => ⟨[(11, .i .i64 (f (q + k))), (10, .i .i64 i), (9, .rs 33 0 256 1), (7, .i .u64 (iv V)), (6, .rf 1000000000020 0)], [(1000000000020, [.rf 1000000020 0, strB 136 31 T (q + k + 1)]), (1000000020, strC 136 31 T (q + k + 1)), (33, nums .i64 O)]⟩) (by simp (disch := first | assumption | omega | (simp only [List.length_cons, List.length_nil, List.length_set, List.length_append, List.length_replicate, List.length_map, List.length_range, List.length_take, List.length_drop, nums_length, bools_length, vecs_length]; first | done | omega)) []) ?_ ?_
      · intro k hk
        have hgt := j3 (q + k) (by omega) (by omega)
        obtain ⟨v0, v1⟩ := hb (q + k + 1)
        have n1 := hn (q + k + 1)
        have g2 := fb (q + k + 1)
        have g3 := fb (q + k + 1 + 1)
        have wz : IntKind.i64.wrap (f (q + k + 1)) = f (q + k + 1) := i64_in _ (by omega)
        rw [show q + (k + 1) = q + k + 1 from rfl]
        generalize f (q + k + 1) = z at *
        generalize f (q + k) = y at *
        generalize strB 136 31 T (q + k + 1) = B0 at *
        generalize strB 136 31 T (q + k + 1 + 1) = B1 at *
        generalize strC 136 31 T (q + k + 1) = C0 at *
        generalize strC 136 31 T (q + k + 1 + 1) = C1 at *
        simp (disch := first | assumption | omega | (simp only [List.length_cons, List.length_nil, List.length_set, List.length_append, List.length_replicate, List.length_map, List.length_range, List.length_take, List.length_drop, nums_length, bools_length, vecs_length]; first | done | omega)) [hgt, n1, wz]
      · rw [show q + (P - q) = P by omega]
        obtain ⟨v0, v1⟩ := hb P
        have g2 := fb (P + 1)
        have hng : ¬ (i : Int) < f P := by omega
        have tn : (f P).toNat < 256 := by omega
        have ti : (i : Int).toNat = i := Int.toNat_natCast _
        have b1 : f P < 256 := v1
        have gO := nums_get (k := .i64) (L := O) (j := (f P).toNat) (by omega)
        have ha := bitV_and V 1
        rw [show iv 1 = 1 from rfl] at ha
        have hsv : sv V = 1 - 2 * iv (V &&& 1) := rfl
        have hb01 := sv_eq V
        have hsh := shr_u64 V (n := 1) (by omega)
        rw [show ((1 : Nat) : Int) = 1 from rfl] at hsh
        have wc : IntKind.i64.wrap (iv (V &&& 1)) = iv (V &&& 1) := i64_in _ (by omega)
        have wm : IntKind.i64.wrap (2 * iv (V &&& 1)) = 2 * iv (V &&& 1) := i64_in _ (by omega)
        have ws : IntKind.i64.wrap (1 - 2 * iv (V &&& 1)) = sv V := by rw [hsv]; exact i64_in _ (by omega)
        have wi : IntKind.i64.wrap ((i : Int) + 1) = ((i + 1 : Nat) : Int) := by rw [i64_in _ (by omega)]; omega
        generalize sv V = Y at *
        generalize iv (V &&& 1) = D at *
        generalize f P = j at *
        generalize strB 136 31 T (P + 1) = B0 at *
        generalize strC 136 31 T (P + 1) = C0 at *
        simp (disch := first | assumption | omega | (simp only [List.length_cons, List.length_nil, List.length_set, List.length_append, List.length_replicate, List.length_map, List.length_range, List.length_take, List.length_drop, nums_length, bools_length, vecs_length]; first | done | omega)) [hng, ti, gO, ha, hsh, wc, wm, ws, wi, hi2, -shiftV_shl, -shiftV_shr]
    · have hbl := bo_len f W tau p tau
      rw [show 256 - tau + tau = 256 by omega]
      generalize bo f W tau p tau = O at *
      generalize strB 136 31 T (bq p tau) = B0 at *
      generalize strC 136 31 T (bq p tau) = C0 at *
      simp (disch := first | assumption | omega | (simp only [List.length_cons, List.length_nil, List.length_set, List.length_append, List.length_replicate, List.length_map, List.length_range, List.length_take, List.length_drop, nums_length, bools_length, vecs_length]; first | done | omega)) []
end Zab.YtngoidkconngmaaDoorG
