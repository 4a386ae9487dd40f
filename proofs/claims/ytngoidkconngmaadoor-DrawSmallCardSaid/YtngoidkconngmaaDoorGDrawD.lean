/- Numbers of a ball, as the document draws them. -/
import Derived.Test.YtngoidkconngmaaDoorZabY
import Derived.Test.YtngoidkconngmaaDoorGDrawM
import Derived.Test.YtngoidkconngmaaDoorGDrawB
namespace Zab.YtngoidkconngmaaDoorG
open Go
open Go.IntWalk (i64_in)
set_option maxRecDepth 100000
set_option linter.unusedSimpArgs false
set_option linter.unusedVariables false
attribute [-simp] getElem?_pos

theorem dBit {x : AV} {L : List Int} (hx : IsL .u8 x L) (hI : ∀ y ∈ L, inK .u8 y) {a : Nat} (ha : a / 8 < L.length) (ha2 : a < 1000000) : FF tab 89 [x, .i .i64 a] = some ⟨.i .i64 ((val L / 2 ^ a % 2 : Nat) : Int), []⟩ := by
  refine call_by (A := A89) rfl rfl ?_
  have fx := hx.flat
  have hB := bytes_in hI
  have hb := val_bit hB ha
  have td : (a : Int).tdiv 8 = ((a / 8 : Nat) : Int) := by rw [Int.tdiv_eq_ediv_of_nonneg (by omega)]; omega
  have tm : (a : Int).tmod 8 = ((a % 8 : Nat) : Int) := by rw [Int.tmod_eq_emod_of_nonneg (by omega)]; omega
  have wq : IntKind.i64.wrap ((a / 8 : Nat) : Int) = ((a / 8 : Nat) : Int) := i64_in _ (by omega)
  have wm : IntKind.u64.wrap ((a % 8 : Nat) : Int) = ((a % 8 : Nat) : Int) := u64_nat (by omega)
  have ix := ixSV_isL hx (k' := .i64) (j := ((a / 8 : Nat) : Int)) (by omega) (by omega)
  rw [Int.toNat_natCast] at ix
  have gx := nums_get (k := .u8) (L := L) (j := a / 8) ha
  obtain ⟨y0, y1⟩ : 0 ≤ ni L (a / 8) ∧ ni L (a / 8) < 256 := hB _ (by unfold ni; rw [List.getD_eq_getElem?_getD, List.getElem?_eq_getElem ha]; exact List.getElem_mem ha)
  have ey : ni L (a / 8) = ((ni L (a / 8)).toNat : Int) := by omega
  rw [ey] at gx
  have h8 : a % 8 < 8 := Nat.mod_lt _ (by omega)
  have sr := u8_shr (a := (ni L (a / 8)).toNat) (d := a % 8) (by omega)
  have hy : (ni L (a / 8)).toNat / 2 ^ (a % 8) ≤ (ni L (a / 8)).toNat := Nat.div_le_self _ _
  have an := u8_one (a := (ni L (a / 8)).toNat / 2 ^ (a % 8)) (by omega)
  rw [hb] at an
  have bl : val L / 2 ^ a % 2 < 2 := Nat.mod_lt _ (by omega)
  have wb : IntKind.i64.wrap ((val L / 2 ^ a % 2 : Nat) : Int) = ((val L / 2 ^ a % 2 : Nat) : Int) := i64_in _ (by omega)
  clear hb
  generalize ((val L / 2 ^ a % 2 : Nat) : Int) = B1 at *
  generalize (((ni L (a / 8)).toNat / 2 ^ (a % 8) : Nat) : Int) = Y1 at *
  generalize (((ni L (a / 8)).toNat : Nat) : Int) = Y0 at *
  generalize ((a % 8 : Nat) : Int) = M8 at *
  generalize ((a / 8 : Nat) : Int) = Q8 at *
  generalize (a : Int) = A0 at *
  simp (disch := first | assumption | omega | (simp only [List.length_cons, List.length_nil, List.length_set, List.length_append, List.length_replicate, List.length_map, List.length_range, List.length_take, List.length_drop, nums_length, bools_length, vecs_length]; first | done | omega)) [A89, td, tm, wq, wm, ix, gx, sr, an, wb, -shiftV_shl, -shiftV_shr]
set_option maxHeartbeats 8000000 in
theorem dBall {x : AV} {L : List Int} (hx : IsL .u8 x L) (hB : Bys L) {tau : Nat} (t0 : 1 ≤ tau) (t1 : tau ≤ 64) {f : Nat → Int} (hf : f = bt 136 (padS 136 31 (takeL 136 (zL 25, 0) L)))
    {p : Nat → Nat} (hp : ∀ m, m < tau → IsJ f (256 - tau + m) (bq p m) (p m)) :
    FF tab 51 [.i .i64 tau, x] = some ⟨.os (nums .i64 (bo f (sgn f 8) tau p tau)) 256 1, []⟩ := by
  refine call_by (A := A51) rfl rfl ?_
  have fx := hx.flat
  have hO := dOpen (R := 136) (by omega) (by omega) (IsV.one hx) (one_bys hB) (by simp)
  rw [show ((136 : Nat) : Int) = 136 from rfl, show [L].flatten = L by simp] at hO
  have hZ : (zL 25).length = 25 := zL_len 25
  obtain ⟨a1, a2⟩ := takeL_ok (R := 136) L (S := (zL 25, 0)) hZ (by show 0 < 136; omega)
  generalize takeL 136 (zL 25, 0) L = T at *
  have hn := dNext a1 (by omega) (by omega) a2 (X := 31) (by omega) (by omega)
  have hb := bt_in 136 (padS 136 31 T)
  rw [← hf] at hn hb
  clear hf
  simp (disch := first | assumption | omega | (simp only [List.length_cons, List.length_nil, List.length_set, List.length_append, List.length_replicate, List.length_map, List.length_range, List.length_take, List.length_drop, nums_length, bools_length, vecs_length]; first | done | omega)) [A51, hO]
  -- the signs
  refine w_heads 8 (fun k => ⟨[(7, .i .i64 k), (6, .rs 6 0 ((List.range k).map f).length 1), (5, .rf 1000000000005 0), (0, .i .i64 tau)], [(1000000000005, [.rf 1000000013 0]), (1000000013, strD 136 31 T k), (6, nums .u8 ((List.range k).map f))]⟩) (by simp (disch := first | assumption | omega | (simp only [List.length_cons, List.length_nil, List.length_set, List.length_append, List.length_replicate, List.length_map, List.length_range, List.length_take, List.length_drop, nums_length, bools_length, vecs_length]; first | done | omega)) [nums_nil]) ?_ ?_
  · intro k hk
    obtain ⟨u0, u1⟩ := hb k
    have n0 := hn k
    have wk : IntKind.i64.wrap ((k : Int) + 1) = (k : Int) + 1 := i64_in _ (by omega)
    have hlt : (k : Int) < 8 := by omega
    have wy : IntKind.u8.wrap (f k) = f k := by rw [wrap_lo]; omega
    have hl : ((List.range k).map f).length = k := by simp
    have hb1 : ((((List.range k).map f).length : Int) + 1) * 1 ≤ 140737488355328 := by omega
    rw [mapTo_succ]
    generalize (List.range k).map f = O at *
    generalize f k = y at *
    generalize strD 136 31 T k = C0 at *
    generalize strD 136 31 T (k + 1) = C1 at *
    simp (disch := first | assumption | omega | (simp only [List.length_cons, List.length_nil, List.length_set, List.length_append, List.length_replicate, List.length_map, List.length_range, List.length_take, List.length_drop, nums_length, bools_length, vecs_length]; first | done | omega)) [hlt, n0, wk, wy]
  · have hSv := sv_bit hb
    have hBl : ((List.range 8).map f).length = 8 := by simp
    have hBi : ∀ y ∈ (List.range 8).map f, inK .u8 y := by
      intro y hy
      obtain ⟨k, _, rfl⟩ := List.mem_map.1 hy
      obtain ⟨a, b⟩ := hb k
      exact ⟨a, by show _ ≤ (255 : Int); omega⟩
    generalize sgn f 8 = W at *
    generalize (List.range 8).map f = Bs at *
    have wt : IntKind.i64.wrap (256 - (tau : Int)) = ((256 - tau : Nat) : Int) := by rw [i64_in _ (by omega)]; omega
    simp (disch := first | assumption | omega | (simp only [List.length_cons, List.length_nil, List.length_set, List.length_append, List.length_replicate, List.length_map, List.length_range, List.length_take, List.length_drop, nums_length, bools_length, vecs_length]; first | done | omega)) [wt, hBl]
    refine w_heads tau (fun m => ⟨[(9, .i .i64 ((256 - tau + m : Nat) : Int)), (8, .rs 24 0 256 1), (6, .rs 6 0 8 1), (5, .rf 1000000000005 0), (0, .i .i64 tau)], [(1000000000005, [.rf 1000000013 0]), (1000000013, strD 136 31 T (bq p m)), (24, nums .i64 (bo f W tau p m)), (6, nums .u8 Bs)]⟩) (by simp (disch := first | assumption | omega | (simp only [List.length_cons, List.length_nil, List.length_set, List.length_append, List.length_replicate, List.length_map, List.length_range, List.length_take, List.length_drop, nums_length, bools_length, vecs_length]; first | done | omega)) [bq, bo, nums_zrep]) ?_ ?_
    · intro m hm
      have hj := hp m hm
      have hbl := bo_len f W tau p m
      have eo : bo f W tau p (m + 1) = ((bo f W tau p m).set (256 - tau + m) (ni (bo f W tau p m) (f (p m)).toNat)).set (f (p m)).toNat (sv (W >>> m)) := rfl
      have eq : bq p (m + 1) = p m + 1 := rfl
      rw [eo, eq]
      have hbit := dBit (x := .sl (nums .u8 Bs) 8) (L := Bs) (.inl (by show _ = AV.sl _ _; rw [hBl])) hBi (a := m) (by omega) (by omega)
      have hs := hSv m
      have bl : val Bs / 2 ^ m % 2 < 2 := Nat.mod_lt _ (by omega)
      have wb1 : IntKind.i64.wrap (((256 - tau + m : Nat) : Int) + tau) = ((256 + m : Nat) : Int) := by rw [i64_in _ (by omega)]; omega
      have wb2 : IntKind.i64.wrap (((256 + m : Nat) : Int) - 256) = (m : Int) := by rw [i64_in _ (by omega)]; omega
      have hi : 256 - tau + m < 256 := by omega
      rw [show 256 - tau + (m + 1) = 256 - tau + m + 1 by omega]
      generalize 256 - tau + m = i at *
      generalize bo f W tau p m = O at *
      generalize bq p m = q at *
      obtain ⟨j1, j2, j3⟩ := hj
      generalize p m = P at *
      have hi2 : (i : Int) < 256 := by omega
      obtain ⟨u0, u1⟩ := hb q
      have n0 := hn q
      generalize sv (W >>> m) = V at *
      generalize hD : ((val Bs / 2 ^ m % 2 : Nat) : Int) = D at *
      simp (disch := first | assumption | omega | (simp only [List.length_cons, List.length_nil, List.length_set, List.length_append, List.length_replicate, List.length_map, List.length_range, List.length_take, List.length_drop, nums_length, bools_length, vecs_length]; first | done | omega)) [hi2, n0]
      refine w_heads (P - q) (fun k => ⟨[(10, .i .i64 (f (q + k))), (9, .i .i64 i), (8, .rs 24 0 256 1), (6, .rs 6 0 8 1), (5, .rf 1000000000005 0), (0, .i .i64 tau)], [(1000000000005, [.rf 1000000013 0]), (1000000013, strD 136 31 T (q + k + 1)), (24, nums .i64 O), (6, nums .u8 Bs)]⟩) (by simp (disch := first | assumption | omega | (simp only [List.length_cons, List.length_nil, List.length_set, List.length_append, List.length_replicate, List.length_map, List.length_range, List.length_take, List.length_drop, nums_length, bools_length, vecs_length]; first | done | omega)) []) ?_ ?_
      · intro k hk
        have hgt := j3 (q + k) (by omega) (by omega)
        have n1 := hn (q + k + 1)
        rw [show q + (k + 1) = q + k + 1 from rfl]
        generalize f (q + k + 1) = z1 at *
        generalize f (q + k) = y at *
        generalize strD 136 31 T (q + k + 1) = C0 at *
        generalize strD 136 31 T (q + k + 1 + 1) = C1 at *
        simp (disch := first | assumption | omega | (simp only [List.length_cons, List.length_nil, List.length_set, List.length_append, List.length_replicate, List.length_map, List.length_range, List.length_take, List.length_drop, nums_length, bools_length, vecs_length]; first | done | omega)) [hgt, n1]
      · rw [show q + (P - q) = P by omega]
        obtain ⟨v0, v1⟩ := hb P
        have hng : ¬ (i : Int) < f P := by omega
        have ti : (i : Int).toNat = i := Int.toNat_natCast _
        have b1 : f P < 256 := v1
        have gO := nums_get (k := .i64) (L := O) (j := (f P).toNat) (by omega)
        have wm : IntKind.i64.wrap (2 * D) = 2 * D := i64_in _ (by omega)
        have ws : IntKind.i64.wrap (1 - 2 * D) = V := by rw [hs]; exact i64_in _ (by omega)
        have wi : IntKind.i64.wrap ((i : Int) + 1) = (i : Int) + 1 := i64_in _ (by omega)
        clear hs hD
        generalize f P = j at *
        generalize strD 136 31 T (P + 1) = C0 at *
        generalize ((256 + m : Nat) : Int) = E1 at *
        simp (disch := first | assumption | omega | (simp only [List.length_cons, List.length_nil, List.length_set, List.length_append, List.length_replicate, List.length_map, List.length_range, List.length_take, List.length_drop, nums_length, bools_length, vecs_length]; first | done | omega)) [hng, ti, gO, hbit, wb1, wb2, wm, ws, wi, hi2]
    · have hbl := bo_len f W tau p tau
      rw [show 256 - tau + tau = 256 by omega]
      generalize bo f W tau p tau = O at *
      generalize strD 136 31 T (bq p tau) = C0 at *
      simp (disch := first | assumption | omega | (simp only [List.length_cons, List.length_nil, List.length_set, List.length_append, List.length_replicate, List.length_map, List.length_range, List.length_take, List.length_drop, nums_length, bools_length, vecs_length]; first | done | omega)) [hbl]
end Zab.YtngoidkconngmaaDoorG
