/- The law of sponges: what goes in and comes out part by part, in both words. -/
import Derived.Test.YtjnomoefbffpoaaDoorZabY
import Derived.Test.YtjnomoefbffpoaaDoorBSpo7
import Derived.Test.YtjnomoefbffpoaaDoorZabG7
namespace Zab.YtjnomoefbffpoaaDoorB
open Go
open Go.IntWalk (i64_in)
set_option maxRecDepth 100000
set_option linter.unusedSimpArgs false
set_option linter.unusedVariables false
attribute [-simp] getElem?_pos
attribute [local simp] sees_nil sees_rf sees_i sees_sl sees_z sees_rs sees_fl

/-- May they be a sponge's? -/
def SpRight (r x : Int) : Prop := 8 ≤ r ∧ r ≤ 192 ∧ r % 8 = 0 ∧ 1 ≤ x ∧ x ≤ 127
instance (r x : Int) : Decidable (SpRight r x) := by unfold SpRight; infer_instance
theorem dRight (r x : Int) (h0 : -9223372036854775808 ≤ r) (x0 : 0 ≤ x) : FF tab 9 [.i .i64 r, .i .u8 x] = some ⟨.b (decide (SpRight r x)), []⟩ := by
  refine call_by (A := A9) rfl rfl ?_
  unfold SpRight
  by_cases h1 : 8 ≤ r
  · have tm : r.tmod 8 = r % 8 := Int.tmod_eq_emod_of_nonneg (by omega)
    by_cases h2 : r ≤ 192
    · by_cases h3 : r % 8 = 0
      · by_cases h4 : 1 ≤ x
        · by_cases h5 : x ≤ 127
          · simp (disch := first | assumption | omega | (simp only [List.length_cons, List.length_nil, List.length_set, List.length_append, List.length_replicate, List.length_map, List.length_range, List.length_take, List.length_drop, nums_length, bools_length, vecs_length]; first | done | omega)) [A9, h1, h2, h3, h4, h5, tm]
          · simp (disch := first | assumption | omega | (simp only [List.length_cons, List.length_nil, List.length_set, List.length_append, List.length_replicate, List.length_map, List.length_range, List.length_take, List.length_drop, nums_length, bools_length, vecs_length]; first | done | omega)) [A9, h1, h2, h3, h4, h5, tm]
        · simp (disch := first | assumption | omega | (simp only [List.length_cons, List.length_nil, List.length_set, List.length_append, List.length_replicate, List.length_map, List.length_range, List.length_take, List.length_drop, nums_length, bools_length, vecs_length]; first | done | omega)) [A9, h1, h2, h3, h4, tm]
      · simp (disch := first | assumption | omega | (simp only [List.length_cons, List.length_nil, List.length_set, List.length_append, List.length_replicate, List.length_map, List.length_range, List.length_take, List.length_drop, nums_length, bools_length, vecs_length]; first | done | omega)) [A9, h1, h2, h3, tm]
    · simp (disch := first | assumption | omega | (simp only [List.length_cons, List.length_nil, List.length_set, List.length_append, List.length_replicate, List.length_map, List.length_range, List.length_take, List.length_drop, nums_length, bools_length, vecs_length]; first | done | omega)) [A9, h1, h2]
  · simp (disch := first | assumption | omega | (simp only [List.length_cons, List.length_nil, List.length_set, List.length_append, List.length_replicate, List.length_map, List.length_range, List.length_take, List.length_drop, nums_length, bools_length, vecs_length]; first | done | omega)) [A9, h1]
theorem sNewE (r x : Int) (h : ¬ SpRight r x) (x0 : 0 ≤ x) : FF tab 8 [.i .i64 r, .i .u8 x] = some ⟨.tp [.np, .er 0], []⟩ := by
  refine call_by (A := A8) rfl rfl ?_
  unfold SpRight at h
  by_cases h1 : r < 8
  · simp (disch := first | assumption | omega | (simp only [List.length_cons, List.length_nil, List.length_set, List.length_append, List.length_replicate, List.length_map, List.length_range, List.length_take, List.length_drop, nums_length, bools_length, vecs_length]; first | done | omega)) [A8, h1]
  · have tm : r.tmod 8 = r % 8 := Int.tmod_eq_emod_of_nonneg (by omega)
    by_cases h2 : 192 < r
    · simp (disch := first | assumption | omega | (simp only [List.length_cons, List.length_nil, List.length_set, List.length_append, List.length_replicate, List.length_map, List.length_range, List.length_take, List.length_drop, nums_length, bools_length, vecs_length]; first | done | omega)) [A8, h1, h2]
    · by_cases h3 : r % 8 = 0
      · by_cases h4 : x = 0
        · simp (disch := first | assumption | omega | (simp only [List.length_cons, List.length_nil, List.length_set, List.length_append, List.length_replicate, List.length_map, List.length_range, List.length_take, List.length_drop, nums_length, bools_length, vecs_length]; first | done | omega)) [A8, h1, h2, h3, h4, tm]
        · have h5 : 127 < x := by omega
          simp (disch := first | assumption | omega | (simp only [List.length_cons, List.length_nil, List.length_set, List.length_append, List.length_replicate, List.length_map, List.length_range, List.length_take, List.length_drop, nums_length, bools_length, vecs_length]; first | done | omega)) [A8, h1, h2, h3, h4, h5, tm]
      · simp (disch := first | assumption | omega | (simp only [List.length_cons, List.length_nil, List.length_set, List.length_append, List.length_replicate, List.length_map, List.length_range, List.length_take, List.length_drop, nums_length, bools_length, vecs_length]; first | done | omega)) [A8, h1, h2, h3, tm]
/-- A sponge's state behind what was asked. -/
def stp (R : Nat) (X : Int) (T : (List Ln × Nat) × Bool) (n : Int) : (List Ln × Nat) × Bool :=
  if n < 0 ∨ 1048576 < n then (if T.2 then T else (takeL R T.1 [1], false)) else (nextN R (if T.2 then T.1 else padS R X T.1) n.toNat, true)
structure StOk (R : Nat) (T : (List Ln × Nat) × Bool) : Prop where
  len : T.1.1.length = 25
  low : T.1.2 ≤ R
  lt : T.2 = false → T.1.2 < R
theorem stp_ok {R : Nat} (hR : 0 < R) (X : Int) {T : (List Ln × Nat) × Bool} (h : StOk R T) (n : Int) : StOk R (stp R X T n) := by
  obtain ⟨S, b⟩ := T
  unfold stp
  by_cases hn : n < 0 ∨ 1048576 < n
  · rw [if_pos hn]
    cases b with
    | true => exact h
    | false =>
      obtain ⟨a1, a2⟩ := takeL_ok (R := R) [1] h.len (h.lt rfl)
      exact ⟨a1, Nat.le_of_lt a2, fun _ => a2⟩
  · rw [if_neg hn]
    cases b with
    | true =>
      obtain ⟨a1, a2⟩ := nextN_ok hR h.len h.low n.toNat
      exact ⟨a1, a2, fun h => by cases h⟩
    | false =>
      obtain ⟨a1, a2⟩ := nextN_ok (S := padS R X S) hR (padS_ok h.len X) (Nat.zero_le _) n.toNat
      exact ⟨a1, a2, fun h => by cases h⟩
def sts (R : Nat) (X : Int) (T : (List Ln × Nat) × Bool) (N : List Int) : (List Ln × Nat) × Bool := N.foldl (stp R X) T
theorem sts_ok {R : Nat} (hR : 0 < R) (X : Int) : ∀ (N : List Int) {T : (List Ln × Nat) × Bool}, StOk R T → StOk R (sts R X T N)
  | [], _, h => h
  | n :: N, _, h => sts_ok hR X N (stp_ok hR X h n)
theorem sts_next (R : Nat) (X : Int) (T : (List Ln × Nat) × Bool) {N : List Int} {k : Nat} (hk : k < N.length) : sts R X T (N.take (k + 1)) = stp R X (sts R X T (N.take k)) (ni N k) := by
  have : ni N k = N[k] := ni_get hk
  rw [this, sts, List.take_succ_eq_append_getElem hk, List.foldl_append]; rfl
theorem one_is : IsL .u8 (.sl [.i .u8 1] 1) [1] := .inl rfl
theorem one_bys8 : Bys [1] := ⟨by
    intro y hy
    have : y = 1 := by simpa using hy
    subst this
    exact ⟨by show (0 : Int) ≤ 1; omega, by show (1 : Int) ≤ 255; omega⟩, by simp⟩

set_option maxHeartbeats 16000000 in
theorem ShakeSays (r : Int) (hr : inK .i64 r) (X : Int) (hX : inK .u8 X) (x : AV) (xs : List AV) (Ls : List (List Int)) (hN : IsVecs .u8 x xs Ls) (y : AV) (N : List Int) (hyN : IsNums .i64 y N) :
    FF tab 3 [.i .i64 r, .i .u8 X, x, y] = some ⟨.b true, []⟩ := by
  refine call_by (A := A3) rfl rfl ?_
  have hv : IsV x xs Ls := ⟨hN.1, hN.2.1, fun j h1 h2 => (hN.2.2 j h1 h2).isL⟩
  have fv := hv.flat
  have lv := hv.len
  have hx := hv.ls
  have hy := hyN.isL
  have fy := hy.flat
  have ly := lenV_isL hy
  have h1 := first5
  have r0 : -9223372036854775808 ≤ r := hr.1
  have X0 : 0 ≤ X := hX.1
  have X1 : X ≤ 255 := hX.2
  have i101 : FF tab 10 [.er 0, .i .i64 101] = some ⟨.b true, []⟩ := SeeIs (c := 101) (by simp [Code]) 101
  have i104 : FF tab 10 [.er 1, .i .i64 104] = some ⟨.b true, []⟩ := SeeIs (c := 104) (by simp [Code]) 104
  have i0 : FF tab 10 [.nl, .i .i64 0] = some ⟨.b true, []⟩ := SeeIs (c := 0) (.inl rfl) 0
  by_cases c1 : (12 : Int) < xs.length
  · simp (disch := first | assumption | omega | (simp only [List.length_cons, List.length_nil, List.length_set, List.length_append, List.length_replicate, List.length_map, List.length_range, List.length_take, List.length_drop, nums_length, bools_length, vecs_length]; first | done | omega)) [A3, h1, lv, c1]
  by_cases c2 : (12 : Int) < N.length
  · simp (disch := first | assumption | omega | (simp only [List.length_cons, List.length_nil, List.length_set, List.length_append, List.length_replicate, List.length_map, List.length_range, List.length_take, List.length_drop, nums_length, bools_length, vecs_length]; first | done | omega)) [A3, h1, lv, ly, c1, c2]
  have hRt := dRight r X r0 X0
  by_cases hR : SpRight r X
  · rw [decide_eq_true hR] at hRt
    obtain ⟨q1, q2, q3, q4, q5⟩ := hR
    obtain ⟨R, rfl⟩ : ∃ R : Nat, r = (R : Int) := ⟨r.toNat, by omega⟩
    have hNw := sNew (R := R) (by omega) (by omega) (by omega) q4 q5
    have hDw := dNew (R : Int) X
    have hZ : (zL 25).length = 25 := zL_len 25
    have hR0 : 0 < R := by omega
    have hR192 : R ≤ 192 := by omega
    simp (disch := first | assumption | omega | (simp only [List.length_cons, List.length_nil, List.length_set, List.length_append, List.length_replicate, List.length_map, List.length_range, List.length_take, List.length_drop, nums_length, bools_length, vecs_length]; first | done | omega)) [A3, h1, lv, ly, c1, c2, hNw, hDw, hRt, ptr_rf]
    refine w_heads xs.length (fun k => ⟨[(13, .i .i64 k), (12, .rf 59 0), (10, .rf 1035 0), (9, .b true), (3, y), (2, x)], [(1035, spC (takeL R (zL 25, 0) (Ls.take k).flatten).1 R X (takeL R (zL 25, 0) (Ls.take k).flatten).2 false), (59, spD (takeL R (zL 25, 0) (Ls.take k).flatten).1 R X (takeL R (zL 25, 0) (Ls.take k).flatten).2 false)]⟩) (by simp (disch := first | assumption | omega | (simp only [List.length_cons, List.length_nil, List.length_set, List.length_append, List.length_replicate, List.length_map, List.length_range, List.length_take, List.length_drop, nums_length, bools_length, vecs_length]; first | done | omega)) [takeL_nil]) ?_ ?_
    · intro k hk
      have hkL : k < Ls.length := by rw [← hx.1]; exact hk
      have hl := hx.2 k hk hkL
      have hix := hv.ix hk
      have hget : xs[k]? = some xs[k] := List.getElem?_eq_getElem hk
      have w1 : IntKind.i64.wrap ((k : Int) + 1) = (k : Int) + 1 := i64_in _ (by omega)
      have hlt : (k : Int) < (xs.length : Int) := by omega
      have fx := hl.flat
      have lx := lenV_isL hl
      by_cases c4 : (400 : Int) < Ls[k].length
      · generalize xs[k] = v at *
        generalize takeL R (zL 25, 0) (Ls.take k).flatten = S at *
        generalize takeL R (zL 25, 0) (Ls.take (k + 1)).flatten = S2 at *
        clear hx hl
        generalize hT' : (k : Int) = T at *
        simp (disch := first | assumption | omega | (simp only [List.length_cons, List.length_nil, List.length_set, List.length_append, List.length_replicate, List.length_map, List.length_range, List.length_take, List.length_drop, nums_length, bools_length, vecs_length]; first | done | omega)) [lv, hix, hget, lx, c4, hlt, hT']
      · obtain ⟨a1, a2⟩ := takeL_ok (R := R) (Ls.take k).flatten (S := (zL 25, 0)) hZ hR0
        have hs : takeL R (zL 25, 0) (Ls.take (k + 1)).flatten = takeL R (takeL R (zL 25, 0) (Ls.take k).flatten) Ls[k] := by
          rw [List.take_succ_eq_append_getElem hkL, List.flatten_append, takeL_app]; simp
        rw [hs]
        have hBk : Bys Ls[k] := ⟨(hN.2.2 k hk hkL).2, by omega⟩
        generalize takeL R (zL 25, 0) (Ls.take k).flatten = S at *
        obtain ⟨B, q⟩ := S
        simp only at a1 a2 ⊢
        have hT := sAbsorb a1 hR192 a2 X hl hBk
        have hD := dAbsorb a1 hR192 a2 X hl hBk
        generalize takeL R (B, q) Ls[k] = S1 at *
        generalize xs[k] = v at *
        clear hs hl hx
        generalize hT' : (k : Int) = T at *
        simp (disch := first | assumption | omega | (simp only [List.length_cons, List.length_nil, List.length_set, List.length_append, List.length_replicate, List.length_map, List.length_range, List.length_take, List.length_drop, nums_length, bools_length, vecs_length]; first | done | omega)) [lv, hix, hget, lx, c4, hT, hD, i0, w1, hlt, hT']
    · have e : Ls.take xs.length = Ls := by rw [hx.1]; exact List.take_length
      rw [e]
      obtain ⟨a1, a2⟩ := takeL_ok (R := R) Ls.flatten (S := (zL 25, 0)) hZ hR0
      obtain ⟨T0, hT0⟩ : ∃ T : (List Ln × Nat) × Bool, T = (takeL R (zL 25, 0) Ls.flatten, false) := ⟨_, rfl⟩
      have k0 : StOk R T0 := by rw [hT0]; exact ⟨a1, Nat.le_of_lt a2, fun _ => a2⟩
      have e1 : takeL R (zL 25, 0) Ls.flatten = T0.1 := by rw [hT0]
      have e2 : T0.2 = false := by rw [hT0]
      rw [e1]
      clear hT0 e1 a1 a2 e
      simp (disch := first | assumption | omega | (simp only [List.length_cons, List.length_nil, List.length_set, List.length_append, List.length_replicate, List.length_map, List.length_range, List.length_take, List.length_drop, nums_length, bools_length, vecs_length]; first | done | omega)) [lv]
      refine w_heads N.length (fun k => ⟨[(14, .i .i64 k), (12, .rf 59 0), (10, .rf 1035 0), (9, .b true), (3, y)], [(1035, spC (sts R X T0 (N.take k)).1.1 R X (sts R X T0 (N.take k)).1.2 (sts R X T0 (N.take k)).2), (59, spD (sts R X T0 (N.take k)).1.1 R X (sts R X T0 (N.take k)).1.2 (sts R X T0 (N.take k)).2)]⟩) (by simp (disch := first | assumption | omega | (simp only [List.length_cons, List.length_nil, List.length_set, List.length_append, List.length_replicate, List.length_map, List.length_range, List.length_take, List.length_drop, nums_length, bools_length, vecs_length]; first | done | omega)) [sts, e2]) ?_ ?_
      · intro k hk
        have hok := sts_ok hR0 X (N.take k) k0
        rw [sts_next R X T0 hk]
        generalize sts R X T0 (N.take k) = T at *
        have hlt : (k : Int) < (N.length : Int) := by omega
        have w1 : IntKind.i64.wrap ((k : Int) + 1) = (k : Int) + 1 := i64_in _ (by omega)
        have ix := ixSV_isL hy (k' := .i64) (j := (k : Int)) (by omega) (by omega)
        rw [Int.toNat_natCast] at ix
        have gx := nums_get (k := .i64) (L := N) (j := k) hk
        generalize ni N k = n at *
        generalize hK : (k : Int) = K at *
        obtain ⟨⟨A, p⟩, b⟩ := T
        obtain ⟨o1, o2, o3⟩ := hok
        simp only at o1 o2 o3
        have hone := one_is
        by_cases n1 : 1000 < n
        · by_cases n2 : n ≤ 1048576
          · generalize stp R X ((A, p), b) n = T2 at *
            simp (disch := first | assumption | omega | (simp only [List.length_cons, List.length_nil, List.length_set, List.length_append, List.length_replicate, List.length_map, List.length_range, List.length_take, List.length_drop, nums_length, bools_length, vecs_length]; first | done | omega)) [hK, ly, hlt, ix, gx, n1, n2]
          · have hbad : n < 0 ∨ 1048576 < n := .inr (by omega)
            have es : stp R X ((A, p), b) n = (if b then ((A, p), b) else (takeL R (A, p) [1], false)) := if_pos hbad
            rw [es]
            have s1 := sBad (A := A) (R : Int) p X b hbad
            have s2 := dBad (A := A) (R : Int) p X b hbad
            have sb : FF tab 16 [.z, .z] = some ⟨.b true, []⟩ := SameBytes (L := []) (M := []) (.inr ⟨rfl, rfl⟩) (.inr ⟨rfl, rfl⟩) (by simp)
            cases b with
            | true =>
              have t1 := sAbsorbT o1 R p X hone.flat
              have t2 := dAbsorbT o1 R p X hone.flat
              clear es hbad
              simp (disch := first | assumption | omega | (simp only [List.length_cons, List.length_nil, List.length_set, List.length_append, List.length_replicate, List.length_map, List.length_range, List.length_take, List.length_drop, nums_length, bools_length, vecs_length]; first | done | omega)) [hK, ly, hlt, ix, gx, n1, n2, s1, s2, sb, t1, t2, i101, i104, w1]
            | false =>
              have t1 := sAbsorb o1 hR192 (o3 rfl) X hone one_bys8
              have t2 := dAbsorb o1 hR192 (o3 rfl) X hone one_bys8
              generalize takeL R (A, p) [1] = S1 at *
              clear es hbad
              simp (disch := first | assumption | omega | (simp only [List.length_cons, List.length_nil, List.length_set, List.length_append, List.length_replicate, List.length_map, List.length_range, List.length_take, List.length_drop, nums_length, bools_length, vecs_length]; first | done | omega)) [hK, ly, hlt, ix, gx, n1, n2, s1, s2, sb, t1, t2, i101, i0, w1]
        · by_cases n3 : n < 0
          · have hbad : n < 0 ∨ 1048576 < n := .inl n3
            have es : stp R X ((A, p), b) n = (if b then ((A, p), b) else (takeL R (A, p) [1], false)) := if_pos hbad
            rw [es]
            have s1 := sBad (A := A) (R : Int) p X b hbad
            have s2 := dBad (A := A) (R : Int) p X b hbad
            have sb : FF tab 16 [.z, .z] = some ⟨.b true, []⟩ := SameBytes (L := []) (M := []) (.inr ⟨rfl, rfl⟩) (.inr ⟨rfl, rfl⟩) (by simp)
            cases b with
            | true =>
              have t1 := sAbsorbT o1 R p X hone.flat
              have t2 := dAbsorbT o1 R p X hone.flat
              clear es hbad
              simp (disch := first | assumption | omega | (simp only [List.length_cons, List.length_nil, List.length_set, List.length_append, List.length_replicate, List.length_map, List.length_range, List.length_take, List.length_drop, nums_length, bools_length, vecs_length]; first | done | omega)) [hK, ly, hlt, ix, gx, n1, s1, s2, sb, t1, t2, i101, i104, w1]
            | false =>
              have t1 := sAbsorb o1 hR192 (o3 rfl) X hone one_bys8
              have t2 := dAbsorb o1 hR192 (o3 rfl) X hone one_bys8
              generalize takeL R (A, p) [1] = S1 at *
              clear es hbad
              simp (disch := first | assumption | omega | (simp only [List.length_cons, List.length_nil, List.length_set, List.length_append, List.length_replicate, List.length_map, List.length_range, List.length_take, List.length_drop, nums_length, bools_length, vecs_length]; first | done | omega)) [hK, ly, hlt, ix, gx, n1, s1, s2, sb, t1, t2, i101, i0, w1]
          · have es : stp R X ((A, p), b) n = (nextN R (if b then (A, p) else padS R X (A, p)) n.toNat, true) := if_neg (by omega)
            rw [es]
            cases b with
            | true =>
              have s1 := sSqueezeT o1 hR0 hR192 o2 X (n := n) (by omega) (by omega)
              have s2 := dSqueezeT o1 hR0 hR192 o2 X (n := n) (by omega) (by omega)
              have hol := outL_len R (A, p) n.toNat
              have ok2 := nextN_ok (S := (A, p)) hR0 o1 o2 n.toNat
              simp only [if_true]
              generalize nextN R (A, p) n.toNat = S1 at *
              generalize outL R (A, p) n.toNat = O at *
              have hI : IsL .u8 (.sl (nums .u8 O) n.toNat) O := .inl (by show _ = AV.sl _ _; rw [hol])
              have sb := SameBytes hI hI (by omega)
              rw [decide_eq_true rfl] at sb
              have t1 := sAbsorbT ok2.1 R S1.2 X hone.flat
              have t2 := dAbsorbT ok2.1 R S1.2 X hone.flat
              clear es
              generalize n.toNat = m at *
              simp (disch := first | assumption | omega | (simp only [List.length_cons, List.length_nil, List.length_set, List.length_append, List.length_replicate, List.length_map, List.length_range, List.length_take, List.length_drop, nums_length, bools_length, vecs_length]; first | done | omega)) [hK, ly, hlt, ix, gx, n1, n3, s1, s2, sb, t1, t2, i0, i104, w1]
            | false =>
              have s1 := sSqueeze o1 hR0 hR192 (o3 rfl) X0 (by omega) (n := n) (by omega) (by omega)
              have s2 := dSqueeze o1 hR0 hR192 (o3 rfl) X0 (by omega) (n := n) (by omega) (by omega)
              have hol := outL_len R (padS R X (A, p)) n.toNat
              have ok2 := nextN_ok (S := padS R X (A, p)) hR0 (padS_ok o1 X) (Nat.zero_le _) n.toNat
              simp only [Bool.false_eq_true, if_false]
              generalize nextN R (padS R X (A, p)) n.toNat = S1 at *
              generalize outL R (padS R X (A, p)) n.toNat = O at *
              have hI : IsL .u8 (.sl (nums .u8 O) n.toNat) O := .inl (by show _ = AV.sl _ _; rw [hol])
              have sb := SameBytes hI hI (by omega)
              rw [decide_eq_true rfl] at sb
              have t1 := sAbsorbT ok2.1 R S1.2 X hone.flat
              have t2 := dAbsorbT ok2.1 R S1.2 X hone.flat
              clear es
              generalize n.toNat = m at *
              simp (disch := first | assumption | omega | (simp only [List.length_cons, List.length_nil, List.length_set, List.length_append, List.length_replicate, List.length_map, List.length_range, List.length_take, List.length_drop, nums_length, bools_length, vecs_length]; first | done | omega)) [hK, ly, hlt, ix, gx, n1, n3, s1, s2, sb, t1, t2, i0, i104, w1]
      · generalize sts R X T0 (N.take N.length) = T at *
        simp (disch := first | assumption | omega | (simp only [List.length_cons, List.length_nil, List.length_set, List.length_append, List.length_replicate, List.length_map, List.length_range, List.length_take, List.length_drop, nums_length, bools_length, vecs_length]; first | done | omega)) [ly]
  · rw [decide_eq_false hR] at hRt
    have hE := sNewE r X hR X0
    simp (disch := first | assumption | omega | (simp only [List.length_cons, List.length_nil, List.length_set, List.length_append, List.length_replicate, List.length_map, List.length_range, List.length_take, List.length_drop, nums_length, bools_length, vecs_length]; first | done | omega)) [A3, h1, lv, ly, c1, c2, hE, hRt, i101]
end Zab.YtjnomoefbffpoaaDoorB
