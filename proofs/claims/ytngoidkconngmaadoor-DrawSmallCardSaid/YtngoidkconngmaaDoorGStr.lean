/- Streams: what the program's and the document's functions give back. -/
import Derived.Test.YtngoidkconngmaaDoorZabY
import Derived.Test.YtngoidkconngmaaDoorZabG8
import Derived.Test.YtngoidkconngmaaDoorGSpo7
namespace Zab.YtngoidkconngmaaDoorG
open Go
open Go.IntWalk (i64_in)
set_option maxRecDepth 100000
set_option linter.unusedSimpArgs false
set_option linter.unusedVariables false
attribute [-simp] getElem?_pos

/-- An empty buffer: bytes are fetched. -/
theorem pNextE {C C' : List AV} {L : List Int} (hL : L.length = 136) (hS : FF tab 140 [.op C, .i .i64 136] = some ⟨.tp [.os (nums .u8 L) 136 1, .nl], [C']⟩) {bf : AV} (hb : bf = .z ∨ bf = .sl [] 0) :
    FF tab 75 [.oq [.op C, bf]] = some ⟨.i .u8 (ni L 0), [[.op C', .sl (nums .u8 ((L.drop 1).take 135)) 135]]⟩ := by
  refine call_by (A := A75) rfl rfl ?_
  have hs : slcV 1 (.sl (nums .u8 L) 136) (some (.i .i64 1)) none none = some (.sl (nums .u8 ((L.drop 1).take 135)) 135) := slc_one (by omega)
  have hg : (nums .u8 L)[0]? = some (.i .u8 (ni L 0)) := nums_get (by omega)
  generalize ni L 0 = y at *
  rcases hb with rfl | rfl
  · simp (disch := first | assumption | omega | (simp only [List.length_cons, List.length_nil, List.length_set, List.length_append, List.length_replicate, List.length_map, List.length_range, List.length_take, List.length_drop, nums_length, bools_length, vecs_length]; first | done | omega)) [A75, hS, hs, hg]
  · simp (disch := first | assumption | omega | (simp only [List.length_cons, List.length_nil, List.length_set, List.length_append, List.length_replicate, List.length_map, List.length_range, List.length_take, List.length_drop, nums_length, bools_length, vecs_length]; first | done | omega)) [A75, hS, hs, hg]
/-- A buffer that has bytes. -/
theorem pNextN {C : List AV} {L : List Int} {n : Nat} (hn : 0 < n) (hL : L.length = n) :
    FF tab 75 [.oq [.op C, .sl (nums .u8 L) n]] = some ⟨.i .u8 (ni L 0), [[.op C, .sl (nums .u8 ((L.drop 1).take (n - 1))) (n - 1)]]⟩ := by
  refine call_by (A := A75) rfl rfl ?_
  have hs : slcV 1 (.sl (nums .u8 L) n) (some (.i .i64 1)) none none = some (.sl (nums .u8 ((L.drop 1).take (n - 1))) (n - 1)) := slc_one (by omega)
  have hg : (nums .u8 L)[0]? = some (.i .u8 (ni L 0)) := nums_get (by omega)
  have h0 : ¬ (n : Int) = 0 := by omega
  have h1 : (0 : Int) < n := by omega
  generalize ni L 0 = y at *
  generalize n - 1 = m at *
  simp (disch := first | assumption | omega | (simp only [List.length_cons, List.length_nil, List.length_set, List.length_append, List.length_replicate, List.length_map, List.length_range, List.length_take, List.length_drop, nums_length, bools_length, vecs_length]; first | done | omega)) [A75, hs, hg, h0, h1]
theorem pNext {R : Nat} {X : Int} {T : List Ln × Nat} (hT : T.1.length = 25) (hR0 : 0 < R) (hR : R ≤ 192) (hp : T.2 < R) (x0 : 0 ≤ X) (x1 : X < 256) (k : Nat) :
    FF tab 75 [.oq [.op (strC R X T k), strB R X T k]] = some ⟨.i .u8 (bt R (padS R X T) k), [[.op (strC R X T (k + 1)), strB R X T (k + 1)]]⟩ := by
  have hS := padS_ok (R := R) hT X
  have hS2 : (padS R X T).2 = 0 := rfl
  obtain ⟨A, p⟩ := T
  simp only at hT hp
  generalize hSS : padS R X (A, p) = S at *
  match k with
  | 0 =>
    have h1 := sSqueeze hT hR0 hR hp x0 x1 (n := 136) (by omega) (by omega)
    rw [hSS] at h1
    have h2 := pNextE (outL_len R S 136) h1 (bf := .z) (.inl rfl)
    have e1 : outL R S 136 = bts R S 0 136 := bts_outL R S 0 136
    have e2 : ni (bts R S 0 136) 0 = bt R S 0 := bts_ni R S 0 136 (by omega)
    have e3 : ((bts R S 0 136).drop 1).take 135 = bts R S 1 135 := by rw [bts_drop R S 0 135, List.take_of_length_le (by rw [bts_len]; omega)]
    rw [show (136 : Int).toNat = 136 from rfl, e1, e2, e3] at h2
    simp only [strC, strB, hSS]
    exact h2
  | j + 1 =>
    have hn := nextN_ok (R := R) (S := S) hR0 hS (by omega) (136 * (j / 136 + 1))
    simp only [strC, strB, hSS]
    by_cases hc : j + 1 = 136 * (j / 136 + 1)
    · have h1 := sSqueezeT hn.1 hR0 hR hn.2 X (n := 136) (by omega) (by omega)
      have h2 := pNextE (outL_len R _ 136) h1 (bf := .sl [] 0) (.inr rfl)
      have e1 : outL R (nextN R S (136 * (j / 136 + 1))) 136 = bts R S (136 * (j / 136 + 1)) 136 := bts_outL R S _ 136
      have e2 : ni (bts R S (136 * (j / 136 + 1)) 136) 0 = bt R S (136 * (j / 136 + 1)) := bts_ni R S _ 136 (by omega)
      have e3 : ((bts R S (136 * (j / 136 + 1)) 136).drop 1).take 135 = bts R S (136 * (j / 136 + 1) + 1) 135 := by rw [bts_drop R S _ 135, List.take_of_length_le (by rw [bts_len]; omega)]
      have e4 : nextN R (nextN R S (136 * (j / 136 + 1))) 136 = nextN R S (136 * ((j + 1) / 136 + 1)) := by
        rw [← nextN_add]; congr 1; omega
      rw [show (136 : Int).toNat = 136 from rfl, show ((nextN R S (136 * (j / 136 + 1))).1, (nextN R S (136 * (j / 136 + 1))).2) = nextN R S (136 * (j / 136 + 1)) from rfl, e1, e2, e3, e4] at h2
      have e5 : 136 * (j / 136 + 1) - (j + 1) = 0 := by omega
      have e6 : 136 * ((j + 1) / 136 + 1) - (j + 1 + 1) = 135 := by omega
      rw [e5, e6]
      have e7 : nums .u8 (bts R S (j + 1) 0) = [] := rfl
      rw [e7, h2, ← hc]
    · have hlt : 136 * (j / 136 + 1) - (j + 1) = (136 * (j / 136 + 1) - (j + 1) - 1) + 1 := by omega
      have h2 := pNextN (C := spC (nextN R S (136 * (j / 136 + 1))).1 R X (nextN R S (136 * (j / 136 + 1))).2 true) (n := 136 * (j / 136 + 1) - (j + 1)) (by omega) (bts_len R S (j + 1) _)
      rw [h2]
      have e0 : (j + 1) / 136 = j / 136 := by omega
      rw [e0, bts_ni R S (j + 1) _ (by omega)]
      have e3 : ((bts R S (j + 1) (136 * (j / 136 + 1) - (j + 1))).drop 1).take (136 * (j / 136 + 1) - (j + 1) - 1) = bts R S (j + 1 + 1) (136 * (j / 136 + 1) - (j + 1) - 1) := by
        conv => lhs; rw [hlt]
        rw [bts_drop, Nat.add_sub_cancel, List.take_of_length_le (by rw [bts_len]; omega)]
      rw [e3]
      congr 1

set_option maxHeartbeats 4000000 in
theorem pOpen {R : Nat} (h0 : 8 ≤ R) (h1 : R ≤ 192) (h8 : R % 8 = 0) {x y : AV} {L M : List Int} (hx : IsL .u8 x L) (hB : Bys L) (hy : IsL .u8 y M) (hC : Bys M) :
    FF tab 74 [.i .i64 R, x, y] = some ⟨.oq [.op (strC R 31 (takeL R (zL 25, 0) (L ++ M)) 0), .z], []⟩ := by
  refine call_by (A := A74) rfl rfl ?_
  have fx := hx.flat
  have fy := hy.flat
  have hZ : (zL 25).length = 25 := zL_len 25
  have hN := sNew h0 h1 h8 (X := 31) (by omega) (by omega)
  have hA := sAbsorb hZ h1 (p := 0) (by omega) 31 hx hB
  rw [show (((0 : Nat)) : Int) = 0 from rfl] at hA
  obtain ⟨a1, a2⟩ := takeL_ok (R := R) L (S := (zL 25, 0)) hZ (by show 0 < R; omega)
  have hA2 := sAbsorb a1 h1 a2 31 hy hC
  rw [show ((takeL R (zL 25, 0) L).1, (takeL R (zL 25, 0) L).2) = takeL R (zL 25, 0) L from rfl, ← takeL_app] at hA2
  simp only [strC]
  generalize takeL R (zL 25, 0) (L ++ M) = S2 at *
  generalize takeL R (zL 25, 0) L = S1 at *
  simp (disch := first | assumption | omega | (simp only [List.length_cons, List.length_nil, List.length_set, List.length_append, List.length_replicate, List.length_map, List.length_range, List.length_take, List.length_drop, nums_length, bools_length, vecs_length]; first | done | omega)) [A74, hN]
  refine w_heads 2 (fun k => ⟨[(24, .i .i64 k), (23, .i .i64 2), (22, .sl [x, y] 2), (7, .rf 1013 0)], [(1013, if k = 0 then spC (zL 25) R 31 0 false else if k = 1 then spC S1.1 R 31 S1.2 false else spC S2.1 R 31 S2.2 false)]⟩) (by simp (disch := first | assumption | omega | (simp only [List.length_cons, List.length_nil, List.length_set, List.length_append, List.length_replicate, List.length_map, List.length_range, List.length_take, List.length_drop, nums_length, bools_length, vecs_length]; first | done | omega)) []) ?_ ?_
  · intro k hk
    match k, hk with
    | 0, _ => simp (disch := first | assumption | omega | (simp only [List.length_cons, List.length_nil, List.length_set, List.length_append, List.length_replicate, List.length_map, List.length_range, List.length_take, List.length_drop, nums_length, bools_length, vecs_length]; first | done | omega)) [hA, show IntKind.i64.wrap 1 = 1 from rfl]
    | 1, _ => simp (disch := first | assumption | omega | (simp only [List.length_cons, List.length_nil, List.length_set, List.length_append, List.length_replicate, List.length_map, List.length_range, List.length_take, List.length_drop, nums_length, bools_length, vecs_length]; first | done | omega)) [hA2, show IntKind.i64.wrap 2 = 2 from rfl]
  · simp (disch := first | assumption | omega | (simp only [List.length_cons, List.length_nil, List.length_set, List.length_append, List.length_replicate, List.length_map, List.length_range, List.length_take, List.length_drop, nums_length, bools_length, vecs_length]; first | done | omega)) []
end Zab.YtngoidkconngmaaDoorG
