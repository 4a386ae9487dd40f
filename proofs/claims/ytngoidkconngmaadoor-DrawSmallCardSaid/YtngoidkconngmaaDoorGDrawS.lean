/- Small numbers out of half bytes: both functions. -/
import Derived.Test.YtngoidkconngmaaDoorZabY
import Derived.Test.YtngoidkconngmaaDoorZabG8
import Derived.Test.YtngoidkconngmaaDoorGDrawV
namespace Zab.YtngoidkconngmaaDoorG
open Go
open Go.IntWalk (i64_in)
set_option maxRecDepth 100000
set_option linter.unusedSimpArgs false
set_option linter.unusedVariables false
attribute [-simp] getElem?_pos

theorem wrap_lo (n : Int) : IntKind.u8.wrap n = n % 256 := rfl
theorem lo_in {n : Int} : 0 ≤ n % 256 ∧ n % 256 < 256 := by omega
theorem hi_in {n : Int} (h0 : 0 ≤ n) (h1 : n ≤ 65535) : 0 ≤ n / 256 ∧ n / 256 < 256 := by omega
theorem shr_8 (n : Int) : shiftV .shr .i64 n 8 = some (.i .i64 (n / 256)) := by rw [shiftV_shr (by omega)]; rfl
theorem wrap_hi {n : Int} (h0 : 0 ≤ n) (h1 : n ≤ 65535) : IntKind.u8.wrap (n / 256) = n / 256 := by
  rw [wrap_lo]; omega

theorem pTwo {n : Int} (h0 : 0 ≤ n) (h1 : n ≤ 65535) : FF tab 117 [.i .i64 n] = some ⟨.sl (nums .u8 [n % 256, n / 256]) 2, []⟩ := by
  refine call_by (A := A117) rfl rfl ?_
  have s := shr_8 n
  have w1 := wrap_lo n
  have w2 := wrap_hi h0 h1
  have e : nums .u8 [n % 256, n / 256] = [.i .u8 (n % 256), .i .u8 (n / 256)] := rfl
  generalize n / 256 = b at *
  generalize n % 256 = a at *
  rw [e]
  simp (disch := first | assumption | omega | (simp only [List.length_cons, List.length_nil, List.length_set, List.length_append, List.length_replicate, List.length_map, List.length_range, List.length_take, List.length_drop, nums_length, bools_length, vecs_length]; first | done | omega)) [A117, s, w1, w2, -shiftV_shr]

set_option maxHeartbeats 8000000 in
theorem pSmall {x : AV} {L : List Int} (hx : IsL .u8 x L) (hB : Bys L) {e n : Int} (he : e = 2 ∨ e = 4) (n0 : 0 ≤ n) (n1 : n ≤ 65535)
    {N : Nat} (hN : (sml e (stF 136 (L ++ [n % 256, n / 256])) N).length = 256) (hlt : ∀ k, k < N → (sml e (stF 136 (L ++ [n % 256, n / 256])) k).length < 256) :
    FF tab 47 [.i .i64 e, x, .i .i64 n] = some ⟨.tp [.os (nums .i64 (sml e (stF 136 (L ++ [n % 256, n / 256])) N)) 256 1, .nl], []⟩ := by
  refine call_by (A := A47) rfl rfl ?_
  have fx := hx.flat
  have hW := pTwo n0 n1
  have l0 := lo_in (n := n)
  have g0 := hi_in n0 n1
  have hO := pOpen (R := 136) (by omega) (by omega) (by omega) hx hB (y := .sl (nums .u8 [n % 256, n / 256]) 2) (M := [n % 256, n / 256]) (.inl rfl) (two_in l0.1 l0.2 g0.1 g0.2)
  rw [show ((136 : Nat) : Int) = 136 from rfl] at hO
  have hZ : (zL 25).length = 25 := zL_len 25
  obtain ⟨a1, a2⟩ := takeL_ok (R := 136) (L ++ [n % 256, n / 256]) (S := (zL 25, 0)) hZ (by show 0 < 136; omega)
  unfold stF at *
  generalize takeL 136 (zL 25, 0) (L ++ [n % 256, n / 256]) = T at *
  generalize nums .u8 [n % 256, n / 256] = tw at *
  have hn := pNext a1 (by omega) (by omega) a2 (X := 31) (by omega) (by omega)
  have hb := bt_in 136 (padS 136 31 T)
  have fb := strB_flat 136 31 T
  generalize bt 136 (padS 136 31 T) = f at *
  have f0 := fb 0
  have e0 : strB 136 31 T 0 = .z := rfl
  have c1 : ¬ n < 0 := by omega
  have c2 : ¬ (65535 : Int) < n := by omega
  rcases he with rfl | rfl
  · simp (disch := first | assumption | omega | (simp only [List.length_cons, List.length_nil, List.length_set, List.length_append, List.length_replicate, List.length_map, List.length_range, List.length_take, List.length_drop, nums_length, bools_length, vecs_length]; first | done | omega)) [A47, hW, hO, c1, c2]
    refine w_heads N (fun k => ⟨[(9, .rs 32 0 (sml 2 f k).length 1), (8, .rf 1000000000031 0), (0, .i .i64 2)], [(1000000000031, [.rf 1000000031 0, strB 136 31 T k]), (1000000031, strC 136 31 T k), (32, nums .i64 (sml 2 f k))]⟩) (by simp (disch := first | assumption | omega | (simp only [List.length_cons, List.length_nil, List.length_set, List.length_append, List.length_replicate, List.length_map, List.length_range, List.length_take, List.length_drop, nums_length, bools_length, vecs_length]; first | done | omega)) [sml, e0, nums_nil]) ?_ ?_
    · intro k hk
      have h256 := hlt k hk
      obtain ⟨u0, u1⟩ := hb k
      have p0 := hn k
      have q0 := fb k
      have q1 := fb (k + 1)
      have eu : sml 2 f (k + 1) = sml1 2 (sml1 2 (sml 2 f k) (f k % 16)) (f k / 16) := rfl
      rw [eu]
      generalize sml 2 f k = O at *
      generalize f k = y at *
      have wy : IntKind.i64.wrap y = y := i64_in _ (by omega)
      have t1 : y.tmod 16 = y % 16 := Int.tmod_eq_emod_of_nonneg u0
      have t2 : y.tdiv 16 = y / 16 := Int.tdiv_eq_ediv_of_nonneg u0
      have w3 : IntKind.i64.wrap (y / 16) = y / 16 := i64_in _ (by omega)
      have hk1 : (O.length : Int) < 256 := by omega
      have v0 : 0 ≤ y % 16 ∧ y % 16 < 16 := by omega
      have z0 : 0 ≤ y / 16 ∧ y / 16 < 16 := by omega
      generalize y % 16 = v at *
      generalize y / 16 = u at *
      generalize strB 136 31 T k = B0 at *
      generalize strB 136 31 T (k + 1) = B1 at *
      generalize strC 136 31 T k = C0 at *
      generalize strC 136 31 T (k + 1) = C1 at *
      simp (disch := first | assumption | omega | (simp only [List.length_cons, List.length_nil, List.length_set, List.length_append, List.length_replicate, List.length_map, List.length_range, List.length_take, List.length_drop, nums_length, bools_length, vecs_length]; first | done | omega)) [hk1, p0, wy, t1, t2, w3]
      refine w_heads 2 (fun j => ⟨[(45, .i .i64 j), (44, .i .i64 2), (43, .sl [.i .i64 v, .i .i64 u] 2), (9, .rs 32 0 (if j = 0 then O else if j = 1 then sml1 2 O v else sml1 2 (sml1 2 O v) u).length 1), (8, .rf 1000000000031 0), (0, .i .i64 2)], [(1000000000031, [.rf 1000000031 0, B1]), (1000000031, C1), (32, nums .i64 (if j = 0 then O else if j = 1 then sml1 2 O v else sml1 2 (sml1 2 O v) u))]⟩) (by simp (disch := first | assumption | omega | (simp only [List.length_cons, List.length_nil, List.length_set, List.length_append, List.length_replicate, List.length_map, List.length_range, List.length_take, List.length_drop, nums_length, bools_length, vecs_length]; first | done | omega)) []) ?_ ?_
      · intro j hj
        match j, hj with
        | 0, _ =>
          have m5 : v.tmod 5 = v % 5 := Int.tmod_eq_emod_of_nonneg v0.1
          have ws : IntKind.i64.wrap (2 - v % 5) = 2 - v % 5 := i64_in _ (by omega)
          have hne : ¬ (O.length : Int) = 256 := by omega
          have hb1 : ((O.length : Int) + 1) * 8 ≤ 140737488355328 := by omega
          by_cases hv : v < 15
          · have e1 : sml1 2 O v = O ++ [2 - v % 5] := by unfold sml1 hlf; rw [if_neg (by omega)]; simp [hv]
            simp (disch := first | assumption | omega | (simp only [List.length_cons, List.length_nil, List.length_set, List.length_append, List.length_replicate, List.length_map, List.length_range, List.length_take, List.length_drop, nums_length, bools_length, vecs_length]; first | done | omega)) [e1, hv, hne, m5, ws, show IntKind.i64.wrap 1 = 1 from rfl]
          · have e1 : sml1 2 O v = O := by unfold sml1 hlf; rw [if_neg (by omega)]; simp [hv]
            simp (disch := first | assumption | omega | (simp only [List.length_cons, List.length_nil, List.length_set, List.length_append, List.length_replicate, List.length_map, List.length_range, List.length_take, List.length_drop, nums_length, bools_length, vecs_length]; first | done | omega)) [e1, hv, hne, m5, ws, show IntKind.i64.wrap 1 = 1 from rfl]
        | 1, _ =>
          have hl1 := (sml1_len 2 O v).2
          generalize sml1 2 O v = O1 at *
          have m5 : u.tmod 5 = u % 5 := Int.tmod_eq_emod_of_nonneg z0.1
          have ws : IntKind.i64.wrap (2 - u % 5) = 2 - u % 5 := i64_in _ (by omega)
          have hb1 : ((O1.length : Int) + 1) * 8 ≤ 140737488355328 := by omega
          by_cases hf : O1.length = 256
          · have hne : (O1.length : Int) = 256 := by omega
            have e1 : sml1 2 O1 u = O1 := by unfold sml1; rw [if_pos hf]
            simp (disch := first | assumption | omega | (simp only [List.length_cons, List.length_nil, List.length_set, List.length_append, List.length_replicate, List.length_map, List.length_range, List.length_take, List.length_drop, nums_length, bools_length, vecs_length]; first | done | omega)) [e1, hf, hne, show IntKind.i64.wrap 2 = 2 from rfl]
          · have hne : ¬ (O1.length : Int) = 256 := by omega
            by_cases hv : u < 15
            · have e1 : sml1 2 O1 u = O1 ++ [2 - u % 5] := by unfold sml1 hlf; rw [if_neg hf]; simp [hv]
              simp (disch := first | assumption | omega | (simp only [List.length_cons, List.length_nil, List.length_set, List.length_append, List.length_replicate, List.length_map, List.length_range, List.length_take, List.length_drop, nums_length, bools_length, vecs_length]; first | done | omega)) [e1, hv, hne, m5, ws, show IntKind.i64.wrap 2 = 2 from rfl]
            · have e1 : sml1 2 O1 u = O1 := by unfold sml1 hlf; rw [if_neg hf]; simp [hv]
              simp (disch := first | assumption | omega | (simp only [List.length_cons, List.length_nil, List.length_set, List.length_append, List.length_replicate, List.length_map, List.length_range, List.length_take, List.length_drop, nums_length, bools_length, vecs_length]; first | done | omega)) [e1, hv, hne, m5, ws, show IntKind.i64.wrap 2 = 2 from rfl]
      · simp (disch := first | assumption | omega | (simp only [List.length_cons, List.length_nil, List.length_set, List.length_append, List.length_replicate, List.length_map, List.length_range, List.length_take, List.length_drop, nums_length, bools_length, vecs_length]; first | done | omega)) []
    · generalize sml 2 f N = O at *
      generalize strB 136 31 T N = B0 at *
      generalize strC 136 31 T N = C0 at *
      simp (disch := first | assumption | omega | (simp only [List.length_cons, List.length_nil, List.length_set, List.length_append, List.length_replicate, List.length_map, List.length_range, List.length_take, List.length_drop, nums_length, bools_length, vecs_length]; first | done | omega)) [hN]
  · simp (disch := first | assumption | omega | (simp only [List.length_cons, List.length_nil, List.length_set, List.length_append, List.length_replicate, List.length_map, List.length_range, List.length_take, List.length_drop, nums_length, bools_length, vecs_length]; first | done | omega)) [A47, hW, hO, c1, c2]
    refine w_heads N (fun k => ⟨[(9, .rs 32 0 (sml 4 f k).length 1), (8, .rf 1000000000031 0), (0, .i .i64 4)], [(1000000000031, [.rf 1000000031 0, strB 136 31 T k]), (1000000031, strC 136 31 T k), (32, nums .i64 (sml 4 f k))]⟩) (by simp (disch := first | assumption | omega | (simp only [List.length_cons, List.length_nil, List.length_set, List.length_append, List.length_replicate, List.length_map, List.length_range, List.length_take, List.length_drop, nums_length, bools_length, vecs_length]; first | done | omega)) [sml, e0, nums_nil]) ?_ ?_
    · intro k hk
      have h256 := hlt k hk
      obtain ⟨u0, u1⟩ := hb k
      have p0 := hn k
      have q0 := fb k
      have q1 := fb (k + 1)
      have eu : sml 4 f (k + 1) = sml1 4 (sml1 4 (sml 4 f k) (f k % 16)) (f k / 16) := rfl
      rw [eu]
      generalize sml 4 f k = O at *
      generalize f k = y at *
      have wy : IntKind.i64.wrap y = y := i64_in _ (by omega)
      have t1 : y.tmod 16 = y % 16 := Int.tmod_eq_emod_of_nonneg u0
      have t2 : y.tdiv 16 = y / 16 := Int.tdiv_eq_ediv_of_nonneg u0
      have w3 : IntKind.i64.wrap (y / 16) = y / 16 := i64_in _ (by omega)
      have hk1 : (O.length : Int) < 256 := by omega
      have v0 : 0 ≤ y % 16 ∧ y % 16 < 16 := by omega
      have z0 : 0 ≤ y / 16 ∧ y / 16 < 16 := by omega
      generalize y % 16 = v at *
      generalize y / 16 = u at *
      generalize strB 136 31 T k = B0 at *
      generalize strB 136 31 T (k + 1) = B1 at *
      generalize strC 136 31 T k = C0 at *
      generalize strC 136 31 T (k + 1) = C1 at *
      simp (disch := first | assumption | omega | (simp only [List.length_cons, List.length_nil, List.length_set, List.length_append, List.length_replicate, List.length_map, List.length_range, List.length_take, List.length_drop, nums_length, bools_length, vecs_length]; first | done | omega)) [hk1, p0, wy, t1, t2, w3]
      refine w_heads 2 (fun j => ⟨[(45, .i .i64 j), (44, .i .i64 2), (43, .sl [.i .i64 v, .i .i64 u] 2), (9, .rs 32 0 (if j = 0 then O else if j = 1 then sml1 4 O v else sml1 4 (sml1 4 O v) u).length 1), (8, .rf 1000000000031 0), (0, .i .i64 4)], [(1000000000031, [.rf 1000000031 0, B1]), (1000000031, C1), (32, nums .i64 (if j = 0 then O else if j = 1 then sml1 4 O v else sml1 4 (sml1 4 O v) u))]⟩) (by simp (disch := first | assumption | omega | (simp only [List.length_cons, List.length_nil, List.length_set, List.length_append, List.length_replicate, List.length_map, List.length_range, List.length_take, List.length_drop, nums_length, bools_length, vecs_length]; first | done | omega)) []) ?_ ?_
      · intro j hj
        match j, hj with
        | 0, _ =>
          have ws : IntKind.i64.wrap (4 - v) = 4 - v := i64_in _ (by omega)
          have hne : ¬ (O.length : Int) = 256 := by omega
          have hb1 : ((O.length : Int) + 1) * 8 ≤ 140737488355328 := by omega
          by_cases hv : v < 9
          · have e1 : sml1 4 O v = O ++ [4 - v] := by unfold sml1 hlf; rw [if_neg (by omega)]; simp [hv]
            simp (disch := first | assumption | omega | (simp only [List.length_cons, List.length_nil, List.length_set, List.length_append, List.length_replicate, List.length_map, List.length_range, List.length_take, List.length_drop, nums_length, bools_length, vecs_length]; first | done | omega)) [e1, hv, hne, ws, show IntKind.i64.wrap 1 = 1 from rfl]
          · have e1 : sml1 4 O v = O := by unfold sml1 hlf; rw [if_neg (by omega)]; simp [hv]
            simp (disch := first | assumption | omega | (simp only [List.length_cons, List.length_nil, List.length_set, List.length_append, List.length_replicate, List.length_map, List.length_range, List.length_take, List.length_drop, nums_length, bools_length, vecs_length]; first | done | omega)) [e1, hv, hne, ws, show IntKind.i64.wrap 1 = 1 from rfl]
        | 1, _ =>
          have hl1 := (sml1_len 4 O v).2
          generalize sml1 4 O v = O1 at *
          have ws : IntKind.i64.wrap (4 - u) = 4 - u := i64_in _ (by omega)
          have hb1 : ((O1.length : Int) + 1) * 8 ≤ 140737488355328 := by omega
          by_cases hf : O1.length = 256
          · have hne : (O1.length : Int) = 256 := by omega
            have e1 : sml1 4 O1 u = O1 := by unfold sml1; rw [if_pos hf]
            simp (disch := first | assumption | omega | (simp only [List.length_cons, List.length_nil, List.length_set, List.length_append, List.length_replicate, List.length_map, List.length_range, List.length_take, List.length_drop, nums_length, bools_length, vecs_length]; first | done | omega)) [e1, hf, hne, show IntKind.i64.wrap 2 = 2 from rfl]
          · have hne : ¬ (O1.length : Int) = 256 := by omega
            by_cases hv : u < 9
            · have e1 : sml1 4 O1 u = O1 ++ [4 - u] := by unfold sml1 hlf; rw [if_neg hf]; simp [hv]
              simp (disch := first | assumption | omega | (simp only [List.length_cons, List.length_nil, List.length_set, List.length_append, List.length_replicate, List.length_map, List.length_range, List.length_take, List.length_drop, nums_length, bools_length, vecs_length]; first | done | omega)) [e1, hv, hne, ws, show IntKind.i64.wrap 2 = 2 from rfl]
            · have e1 : sml1 4 O1 u = O1 := by unfold sml1 hlf; rw [if_neg hf]; simp [hv]
              simp (disch := first | assumption | omega | (simp only [List.length_cons, List.length_nil, List.length_set, List.length_append, List.length_replicate, List.length_map, List.length_range, List.length_take, List.length_drop, nums_length, bools_length, vecs_length]; first | done | omega)) [e1, hv, hne, ws, show IntKind.i64.wrap 2 = 2 from rfl]
      · simp (disch := first | assumption | omega | (simp only [List.length_cons, List.length_nil, List.length_set, List.length_append, List.length_replicate, List.length_map, List.length_range, List.length_take, List.length_drop, nums_length, bools_length, vecs_length]; first | done | omega)) []
    · generalize sml 4 f N = O at *
      generalize strB 136 31 T N = B0 at *
      generalize strC 136 31 T N = C0 at *
      simp (disch := first | assumption | omega | (simp only [List.length_cons, List.length_nil, List.length_set, List.length_append, List.length_replicate, List.length_map, List.length_range, List.length_take, List.length_drop, nums_length, bools_length, vecs_length]; first | done | omega)) [hN]
theorem dHalf {e v : Int} (he : e = 2 ∨ e = 4) (v0 : 0 ≤ v) (v1 : v < 16) : FF tab 121 [.i .i64 e, .i .i64 v] = some ⟨.tp [.i .i64 (if e = 2 then 2 - v % 5 else 4 - v), .b (if e = 2 then decide (v < 15) else decide (v < 9))], []⟩ := by
  refine call_by (A := A121) rfl rfl ?_
  have m5 : v.tmod 5 = v % 5 := Int.tmod_eq_emod_of_nonneg v0
  have w1 : IntKind.i64.wrap (2 - v % 5) = 2 - v % 5 := i64_in _ (by omega)
  have w2 : IntKind.i64.wrap (4 - v) = 4 - v := i64_in _ (by omega)
  rcases he with rfl | rfl
  · simp (disch := first | assumption | omega | (simp only [List.length_cons, List.length_nil, List.length_set, List.length_append, List.length_replicate, List.length_map, List.length_range, List.length_take, List.length_drop, nums_length, bools_length, vecs_length]; first | done | omega)) [A121, m5, w1]
  · simp (disch := first | assumption | omega | (simp only [List.length_cons, List.length_nil, List.length_set, List.length_append, List.length_replicate, List.length_map, List.length_range, List.length_take, List.length_drop, nums_length, bools_length, vecs_length]; first | done | omega)) [A121, w2]
theorem sml1_hlf {e : Int} (he : e = 2 ∨ e = 4) {O : List Int} {v h : Int} {b : Bool} (hh : h = if e = 2 then 2 - v % 5 else 4 - v) (hb : b = if e = 2 then decide (v < 15) else decide (v < 9)) :
    sml1 e O v = if b = true ∧ O.length ≠ 256 then O ++ [h] else O := by
  subst hh hb
  unfold sml1 hlf
  by_cases h1 : O.length = 256
  · simp [h1]
  · rw [if_neg h1]
    rcases he with rfl | rfl
    · by_cases h2 : v < 15 <;> simp [h1, h2]
    · by_cases h2 : v < 9 <;> simp [h1, h2]

set_option maxHeartbeats 8000000 in
theorem dSmall {x : AV} {L : List Int} (hx : IsL .u8 x L) (hB : Bys L) {e n : Int} (he : e = 2 ∨ e = 4) (n0 : 0 ≤ n) (n1 : n ≤ 65535)
    {N : Nat} (hN : (sml e (stF 136 (L ++ [n % 256, n / 256])) N).length = 256) (hlt : ∀ k, k < N → (sml e (stF 136 (L ++ [n % 256, n / 256])) k).length < 256) :
    FF tab 50 [.i .i64 e, x, .i .i64 n] = some ⟨.os (nums .i64 (sml e (stF 136 (L ++ [n % 256, n / 256])) N)) 256 1, []⟩ := by
  refine call_by (A := A50) rfl rfl ?_
  have fx := hx.flat
  have l0 := lo_in (n := n)
  have g0 := hi_in n0 n1
  have hO := dOpen (R := 136) (by omega) (by omega) (IsV.two hx (u := .sl (nums .u8 [n % 256, n / 256]) 2) (M := [n % 256, n / 256]) (.inl rfl)) (two_bys hB (two_in l0.1 l0.2 g0.1 g0.2)) (by simp)
  rw [show nums .u8 [n % 256, n / 256] = [.i .u8 (n % 256), .i .u8 (n / 256)] from rfl, show ((136 : Nat) : Int) = 136 from rfl, show [L, [n % 256, n / 256]].flatten = L ++ [n % 256, n / 256] by simp] at hO
  have hZ : (zL 25).length = 25 := zL_len 25
  obtain ⟨a1, a2⟩ := takeL_ok (R := 136) (L ++ [n % 256, n / 256]) (S := (zL 25, 0)) hZ (by show 0 < 136; omega)
  unfold stF at *
  generalize takeL 136 (zL 25, 0) (L ++ [n % 256, n / 256]) = T at *
  have hn := dNext a1 (by omega) (by omega) a2 (X := 31) (by omega) (by omega)
  have hb := bt_in 136 (padS 136 31 T)
  generalize bt 136 (padS 136 31 T) = f at *
  have s := shr_8 n
  have w1 := wrap_lo n
  have w2 := wrap_hi n0 n1
  generalize n / 256 = hi at *
  generalize n % 256 = lo at *
  simp (disch := first | assumption | omega | (simp only [List.length_cons, List.length_nil, List.length_set, List.length_append, List.length_replicate, List.length_map, List.length_range, List.length_take, List.length_drop, nums_length, bools_length, vecs_length]; first | done | omega)) [A50, hO, s, w1, w2, -shiftV_shr]
  refine w_heads N (fun k => ⟨[(8, .rs 8 0 (sml e f k).length 1), (7, .rf 1000000000007 0), (0, .i .i64 e)], [(1000000000007, [.rf 1000000022 0]), (1000000022, strD 136 31 T k), (8, nums .i64 (sml e f k))]⟩) (by simp (disch := first | assumption | omega | (simp only [List.length_cons, List.length_nil, List.length_set, List.length_append, List.length_replicate, List.length_map, List.length_range, List.length_take, List.length_drop, nums_length, bools_length, vecs_length]; first | done | omega)) [sml, nums_nil]) ?_ ?_
  · intro k hk
    have eu : sml e f (k + 1) = sml1 e (sml1 e (sml e f k) (f k % 16)) (f k / 16) := rfl
    have h256 := hlt k hk
    obtain ⟨u0, u1⟩ := hb k
    have p0 := hn k
    rw [eu]
    generalize sml e f k = O at *
    generalize f k = y at *
    have t1 : y.tmod 16 = y % 16 := Int.tmod_eq_emod_of_nonneg u0
    have t2 : y.tdiv 16 = y / 16 := Int.tdiv_eq_ediv_of_nonneg u0
    have w3 : IntKind.i64.wrap (y / 16) = y / 16 := i64_in _ (by omega)
    have h1 := dHalf he (v := y % 16) (by omega) (by omega)
    have h2 := dHalf he (v := y / 16) (by omega) (by omega)
    generalize y % 16 = v at *
    generalize y / 16 = u at *
    obtain ⟨ha, hha⟩ : ∃ a : Int, a = if e = 2 then 2 - v % 5 else 4 - v := ⟨_, rfl⟩
    obtain ⟨hc, hhc⟩ : ∃ b : Bool, b = if e = 2 then decide (v < 15) else decide (v < 9) := ⟨_, rfl⟩
    obtain ⟨ga, gga⟩ : ∃ a : Int, a = if e = 2 then 2 - u % 5 else 4 - u := ⟨_, rfl⟩
    obtain ⟨gc, ggc⟩ : ∃ b : Bool, b = if e = 2 then decide (u < 15) else decide (u < 9) := ⟨_, rfl⟩
    rw [← hha, ← hhc] at h1
    rw [← gga, ← ggc] at h2
    have e1 := sml1_hlf he (O := O) hha hhc
    have e2 := sml1_hlf he (O := sml1 e O v) gga ggc
    clear hha hhc gga ggc
    have hk1 : (O.length : Int) < 256 := by omega
    have hb1 : ((O.length : Int) + 1) * 8 ≤ 140737488355328 := by omega
    generalize strD 136 31 T k = C0 at *
    generalize strD 136 31 T (k + 1) = C1 at *
    cases hc with
    | true =>
      have e3 : sml1 e O v = O ++ [ha] := by rw [e1, if_pos ⟨rfl, by omega⟩]
      rw [e3] at e2 ⊢
      cases gc with
      | true =>
        by_cases hl2 : O.length + 1 < 256
        · have e4 : sml1 e (O ++ [ha]) u = O ++ [ha, ga] := by rw [e2, if_pos ⟨rfl, by simp; omega⟩]; simp
          have hl3 : (O.length : Int) + 1 < 256 := by omega
          have hb2 : ((O.length : Int) + 1 + 1) * 8 ≤ 140737488355328 := by omega
          simp (disch := first | assumption | omega | (simp only [List.length_cons, List.length_nil, List.length_set, List.length_append, List.length_replicate, List.length_map, List.length_range, List.length_take, List.length_drop, nums_length, bools_length, vecs_length]; first | done | omega)) [hk1, hl3, e4, p0, h1, h2, t1, t2, w3]
        · have e4 : sml1 e (O ++ [ha]) u = O ++ [ha] := by rw [e2, if_neg (fun h => h.2 (by simp; omega))]
          have hl3 : ¬ (O.length : Int) + 1 < 256 := by omega
          simp (disch := first | assumption | omega | (simp only [List.length_cons, List.length_nil, List.length_set, List.length_append, List.length_replicate, List.length_map, List.length_range, List.length_take, List.length_drop, nums_length, bools_length, vecs_length]; first | done | omega)) [hk1, hl3, e4, p0, h1, h2, t1, t2, w3]
      | false =>
        have e4 : sml1 e (O ++ [ha]) u = O ++ [ha] := by rw [e2, if_neg (fun h => absurd h.1 (by decide))]
        simp (disch := first | assumption | omega | (simp only [List.length_cons, List.length_nil, List.length_set, List.length_append, List.length_replicate, List.length_map, List.length_range, List.length_take, List.length_drop, nums_length, bools_length, vecs_length]; first | done | omega)) [hk1, e4, p0, h1, h2, t1, t2, w3]
    | false =>
      have e3 : sml1 e O v = O := by rw [e1, if_neg (fun h => absurd h.1 (by decide))]
      rw [e3] at e2 ⊢
      cases gc with
      | true =>
        have e4 : sml1 e O u = O ++ [ga] := by rw [e2, if_pos ⟨rfl, by omega⟩]
        simp (disch := first | assumption | omega | (simp only [List.length_cons, List.length_nil, List.length_set, List.length_append, List.length_replicate, List.length_map, List.length_range, List.length_take, List.length_drop, nums_length, bools_length, vecs_length]; first | done | omega)) [hk1, e4, p0, h1, h2, t1, t2, w3]
      | false =>
        have e4 : sml1 e O u = O := by rw [e2, if_neg (fun h => absurd h.1 (by decide))]
        simp (disch := first | assumption | omega | (simp only [List.length_cons, List.length_nil, List.length_set, List.length_append, List.length_replicate, List.length_map, List.length_range, List.length_take, List.length_drop, nums_length, bools_length, vecs_length]; first | done | omega)) [hk1, e4, p0, h1, h2, t1, t2, w3]
  · generalize sml e f N = O at *
    generalize strD 136 31 T N = C0 at *
    simp (disch := first | assumption | omega | (simp only [List.length_cons, List.length_nil, List.length_set, List.length_append, List.length_replicate, List.length_map, List.length_range, List.length_take, List.length_drop, nums_length, bools_length, vecs_length]; first | done | omega)) [hN]
theorem sml_ends {L : List Int} (h : ∀ y ∈ L, inK .u8 y) (hl : L.length ≤ 102) (e : Int) : ∃ N, (sml e (stF 136 L) N).length = 256 ∧ ∀ i, i < N → (sml e (stF 136 L) i).length < 256 :=
  sml_end fun i => zeros1 (X := 31) (by omega) (by omega) (fun y hy => by obtain ⟨a, b⟩ := h y hy; exact ⟨a, by have b' : y ≤ 255 := b; omega⟩) hl i
end Zab.YtngoidkconngmaaDoorG
