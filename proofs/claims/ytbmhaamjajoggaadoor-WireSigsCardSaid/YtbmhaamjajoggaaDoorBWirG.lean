/- Vectors out of bytes: both functions. -/
import Derived.Test.YtbmhaamjajoggaaDoorZabY
import Derived.Test.YtbmhaamjajoggaaDoorBWirB
namespace Zab.YtbmhaamjajoggaaDoorB
open Go
open Go.IntWalk (i64_in)
set_option maxRecDepth 100000
set_option linter.unusedSimpArgs false
set_option linter.unusedVariables false
attribute [-simp] getElem?_pos

theorem pMany {d : Nat} (h : d ≤ 24) : FF tab 65 [.i .i64 d] = some ⟨.i .i64 ((32 * d : Nat) : Int), []⟩ := by
  refine call_by (A := A65) rfl rfl ?_
  have w1 : IntKind.i64.wrap ((d : Int) * 256) = (d : Int) * 256 := i64_in _ (by omega)
  have t1 : ((d : Int) * 256).tdiv 8 = ((32 * d : Nat) : Int) := by rw [Int.tdiv_eq_ediv_of_nonneg (by omega)]; omega
  have w2 : IntKind.i64.wrap ((32 * d : Nat) : Int) = ((32 * d : Nat) : Int) := i64_in _ (by omega)
  generalize ((32 * d : Nat) : Int) = z at *
  simp (disch := first | assumption | omega | (simp only [lenS]; first | done | omega)) [A65, w1, t1, w2]
theorem cutL {D : List Int} {s : Nat} (h : s ≤ D.length) : slcV 1 (.sl (nums .u8 D) D.length) none (some (.i .i64 (s : Int))) none = some (.sl (nums .u8 (D.take s)) s) := by
  rw [slcV_sl (l := 0) (h := s) rfl (by simp [idxO, idx]) (by omega) h]
  simp [nums_take]
theorem cutR {D : List Int} {s : Nat} (h : s ≤ D.length) : slcV 1 (.sl (nums .u8 D) D.length) (some (.i .i64 (s : Int))) none none = some (.sl (nums .u8 (D.drop s)) (D.drop s).length) := by
  rw [slcV_sl (l := s) (h := D.length) (by simp [idxO, idx]) rfl h (by omega)]
  rw [Nat.mul_one, Nat.mul_one, List.take_of_length_le (by rw [List.length_drop, nums_length]; omega), nums_drop, List.length_drop]
theorem in_drop {D : List Int} (h : ∀ y ∈ D, inK .u8 y) (s : Nat) : ∀ y ∈ D.drop s, inK .u8 y := fun y hy => h y (List.mem_of_mem_drop hy)
theorem in_take {D : List Int} (h : ∀ y ∈ D, inK .u8 y) (s : Nat) : ∀ y ∈ D.take s, inK .u8 y := fun y hy => h y (List.mem_of_mem_take hy)
set_option maxHeartbeats 8000000 in
theorem pOpened {low high : Int} {d : Nat} (b : Bnd low high d) (hok : ((2 ^ d : Nat) : Int) ≤ low + high + 1) {n : Nat} (hn : n ≤ 20) {L : List Int} (hI : ∀ y ∈ L, inK .u8 y) (hl : n * (32 * d) ≤ L.length) (h5 : L.length ≤ 100000) :
    FF tab 45 [.i .i64 n, .i .i64 low, .i .i64 high, .sl (nums .u8 L) L.length] = some ⟨.tp [.os (vecs .i64 (opA high d n L)) n 1, .sl (nums .u8 (L.drop (n * (32 * d)))) (L.drop (n * (32 * d))).length, .nl], []⟩ := by
  have hb := b
  obtain ⟨l0, l1, h0, h1, hs, d1, d24, hd, hW, _⟩ := b
  refine call_by (A := A45) rfl rfl ?_
  have hM := pMany d24
  have w : IntKind.i64.wrap (low + high) = low + high := i64_in _ (by omega)
  obtain ⟨s, hs'⟩ : ∃ s, s = 32 * d := ⟨_, rfl⟩
  rw [← hs'] at hM hl ⊢
  simp (disch := first | assumption | omega | (simp only [lenS]; first | done | omega)) [A45, w, hW, hM]
  refine w_heads n (fun i => ⟨[(21, .i .i64 i), (20, .i .i64 n), (12, .rs 12 0 i 1), (11, .i .i64 s), (3, .sl (nums .u8 (L.drop (i * s))) (L.drop (i * s)).length), (2, .i .i64 high), (1, .i .i64 low)], [(12, vecs .i64 (opA high d i L))]⟩) (by simp (disch := first | assumption | omega | (simp only [lenS]; first | done | omega)) [opA, vecs_nil]) ?_ ?_
  · intro i hi
    have w1 : IntKind.i64.wrap ((i : Int) + 1) = (i : Int) + 1 := i64_in _ (by omega)
    have hlt : (i : Int) < (n : Int) := by omega
    have hmul : (i + 1) * s ≤ n * s := Nat.mul_le_mul_right s hi
    rw [Nat.succ_mul] at hmul
    have hDl : s ≤ (L.drop (i * s)).length := by rw [List.length_drop]; omega
    have hDI := in_take (in_drop hI (i * s)) s
    rw [opA_next, ← hs', show (i + 1) * s = i * s + s from Nat.succ_mul _ _, ← List.drop_drop]
    generalize L.drop (i * s) = D at *
    have tl : (D.take s).length = s := by rw [List.length_take]; omega
    have hO := pOpenS l0 l1 h0 h1 hs hW d1 d24 (n := 256) (by omega) (by omega) (x := .sl (nums .u8 (D.take s)) s) (L := D.take s) (.inl (by rw [slv, tl])) hDI (by rw [tl]; omega) (fun i _ => by have := opn_lt d (val (D.take s)) i; omega)
    rw [show ((256 : Nat) : Int) = 256 from rfl] at hO
    have hV := sgnL_len high d (val (D.take s)) 256
    have hol := opA_len high d i L
    generalize sgnL high d (val (D.take s)) 256 = V at *
    rw [← hV] at hO
    have c1 := cutL hDl
    have c2 := cutR hDl
    have hb1 : ((i : Int) + 1) * 24 ≤ 140737488355328 := by omega
    generalize opA high d i L = O at *
    have hvs := vecs_snoc .i64 O V
    simp (disch := first | assumption | omega | (simp only [lenS]; first | done | omega)) [hlt, c1, c2, hO, w1, hb1, hol, hvs]
  · have hol := opA_len high d n L
    generalize opA high d n L = O at *
    have hdl : (L.drop (n * s)).length = L.length - n * s := List.length_drop
    generalize L.drop (n * s) = D at *
    simp (disch := first | assumption | omega | (simp only [lenS]; first | done | omega)) [hol, hdl]
set_option maxHeartbeats 8000000 in
theorem dOpened {low high : Int} {d : Nat} (b : Bnd low high d) (hok : ((2 ^ d : Nat) : Int) ≤ low + high + 1) {n : Nat} (hn : n ≤ 20) {L : List Int} (hI : ∀ y ∈ L, inK .u8 y) (hl : n * (32 * d) ≤ L.length) (h5 : L.length ≤ 100000) :
    FF tab 54 [.i .i64 low, .i .i64 high, .i .i64 n, .sl (nums .u8 L) L.length] = some ⟨.tp [.os (vecs .i64 (opA high d n L)) n 1, .sl (nums .u8 (L.drop (n * (32 * d)))) (L.drop (n * (32 * d))).length, .i .i64 0], []⟩ := by
  obtain ⟨l0, l1, h0, h1, hs, d1, d24, hd, _, hW⟩ := b
  refine call_by (A := A54) rfl rfl ?_
  have w : IntKind.i64.wrap (low + high) = low + high := i64_in _ (by omega)
  have wm : IntKind.i64.wrap (32 * (d : Int)) = ((32 * d : Nat) : Int) := by rw [show 32 * (d : Int) = ((32 * d : Nat) : Int) by omega]; exact i64_in _ (by omega)
  obtain ⟨s, hs'⟩ : ∃ s, s = 32 * d := ⟨_, rfl⟩
  rw [← hs'] at wm hl ⊢
  simp (disch := first | assumption | omega | (simp only [lenS]; first | done | omega)) [A54, w, wm, hW]
  refine w_heads n (fun i => ⟨[(13, .i .i64 i), (12, .i .i64 s), (11, .rs 11 0 i 1), (3, .sl (nums .u8 (L.drop (i * s))) (L.drop (i * s)).length), (2, .i .i64 n), (1, .i .i64 high), (0, .i .i64 low)], [(11, vecs .i64 (opA high d i L))]⟩) (by simp (disch := first | assumption | omega | (simp only [lenS]; first | done | omega)) [opA, vecs_nil]) ?_ ?_
  · intro i hi
    have w1 : IntKind.i64.wrap ((i : Int) + 1) = (i : Int) + 1 := i64_in _ (by omega)
    have hlt : (i : Int) < (n : Int) := by omega
    have hmul : (i + 1) * s ≤ n * s := Nat.mul_le_mul_right s hi
    rw [Nat.succ_mul] at hmul
    have hDl : s ≤ (L.drop (i * s)).length := by rw [List.length_drop]; omega
    have hDI := in_take (in_drop hI (i * s)) s
    rw [opA_next, ← hs', show (i + 1) * s = i * s + s from Nat.succ_mul _ _, ← List.drop_drop]
    generalize L.drop (i * s) = D at *
    have tl : (D.take s).length = s := by rw [List.length_take]; omega
    have hO := dOpenS l0 l1 h0 h1 hs hW d1 d24 (n := 256) (by omega) (by omega) (x := .sl (nums .u8 (D.take s)) s) (L := D.take s) (.inl (by rw [slv, tl])) hDI (by rw [tl]; omega) (fun i _ => by have := opn_lt d (val (D.take s)) i; omega)
    rw [show ((256 : Nat) : Int) = 256 from rfl] at hO
    have hV := sgnL_len high d (val (D.take s)) 256
    have hol := opA_len high d i L
    generalize sgnL high d (val (D.take s)) 256 = V at *
    rw [← hV] at hO
    have c1 := cutL hDl
    have c2 := cutR hDl
    have hb1 : ((i : Int) + 1) * 24 ≤ 140737488355328 := by omega
    generalize opA high d i L = O at *
    have hvs := vecs_snoc .i64 O V
    simp (disch := first | assumption | omega | (simp only [lenS]; first | done | omega)) [hlt, c1, c2, hO, w1, hb1, hol, hvs]
  · have hol := opA_len high d n L
    generalize opA high d n L = O at *
    have hdl : (L.drop (n * s)).length = L.length - n * s := List.length_drop
    generalize L.drop (n * s) = D at *
    simp (disch := first | assumption | omega | (simp only [lenS]; first | done | omega)) [hol, hdl]
end Zab.YtbmhaamjajoggaaDoorB
