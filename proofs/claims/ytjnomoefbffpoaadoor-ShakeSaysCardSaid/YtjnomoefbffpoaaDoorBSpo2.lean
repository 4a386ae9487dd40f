/- Sponges: all at once; bytes that are the same. -/
import Derived.Test.YtjnomoefbffpoaaDoorZabY
import Derived.Test.YtjnomoefbffpoaaDoorBSpo
namespace Zab.YtjnomoefbffpoaaDoorB
open Go
open Go.IntWalk (i64_in)
set_option maxRecDepth 100000
set_option linter.unusedSimpArgs false
set_option linter.unusedVariables false
attribute [-simp] getElem?_pos
attribute [local simp] sees_nil sees_rf sees_i sees_sl sees_z sees_rs sees_fl

theorem nj_ext {L M : List Int} (h1 : L.length = M.length) (h : ∀ j, j < L.length → ni L j = ni M j) : L = M := by
  apply List.ext_getElem h1
  intro j p q
  have := h j p
  rwa [ni_get p, ni_get q] at this
theorem SameBytes {x y : AV} {L M : List Int} (hx : IsL .u8 x L) (hy : IsL .u8 y M) (hs : L.length < 9223372036854775807) : FF tab 16 [x, y] = some ⟨.b (decide (L = M)), []⟩ := by
  refine call_by (A := A16) rfl rfl ?_
  have fx := hx.flat
  have fy := hy.flat
  have lx := lenV_isL hx
  have ly := lenV_isL hy
  by_cases hl : L.length = M.length
  · simp (disch := first | assumption | omega | (simp only [List.length_cons, List.length_nil, List.length_set, List.length_append, List.length_replicate, List.length_map, List.length_range, List.length_take, List.length_drop, nums_length, bools_length, vecs_length]; first | done | omega)) [A16, lx, ly, hl]
    refine w_headsP L.length (fun k => ⟨[(5, .i .i64 k), (1, y), (0, x)], []⟩) (fun k => ∀ j, j < k → ni L j = ni M j) (by simp (disch := first | assumption | omega | (simp only [List.length_cons, List.length_nil, List.length_set, List.length_append, List.length_replicate, List.length_map, List.length_range, List.length_take, List.length_drop, nums_length, bools_length, vecs_length]; first | done | omega)) []) (fun j h => by omega) ?_ ?_
    · intro k hk hp
      have w1 : IntKind.i64.wrap ((k : Int) + 1) = (k : Int) + 1 := i64_in _ (by omega)
      have hkn : (k : Int).toNat = k := Int.toNat_natCast _
      have hix := ixSV_isL hx (k' := .i64) (j := (k : Int)) (by omega) (by omega)
      have hiy := ixSV_isL hy (k' := .i64) (j := (k : Int)) (by omega) (by omega)
      rw [hkn] at hix hiy
      have hgx := nums_get (k := .u8) hk
      have hgy := nums_get (k := .u8) (L := M) (j := k) (by omega)
      have hlt : (k : Int) < (L.length : Int) := by omega
      generalize hT : (k : Int) = T at *
      by_cases he : ni L k = ni M k
      · simp (disch := first | assumption | omega | (simp only [List.length_cons, List.length_nil, List.length_set, List.length_append, List.length_replicate, List.length_map, List.length_range, List.length_take, List.length_drop, nums_length, bools_length, vecs_length]; first | done | omega)) [lx, hix, hiy, hgx, hgy, he, w1, hT]
        intro j hj
        by_cases e : j = k
        · subst e; exact he
        · exact hp j (by omega)
      · have hne : ¬ L = M := fun h => he (by rw [h])
        simp (disch := first | assumption | omega | (simp only [List.length_cons, List.length_nil, List.length_set, List.length_append, List.length_replicate, List.length_map, List.length_range, List.length_take, List.length_drop, nums_length, bools_length, vecs_length]; first | done | omega)) [lx, hix, hiy, hgx, hgy, he, hne, w1, hT]
    · intro hp
      have : L = M := nj_ext hl hp
      simp (disch := first | assumption | omega | (simp only [List.length_cons, List.length_nil, List.length_set, List.length_append, List.length_replicate, List.length_map, List.length_range, List.length_take, List.length_drop, nums_length, bools_length, vecs_length]; first | done | omega)) [lx, this]
  · have hne : ¬ L = M := fun h => hl (by rw [h])
    have hl' : ¬ (L.length : Int) = (M.length : Int) := by omega
    simp (disch := first | assumption | omega | (simp only [List.length_cons, List.length_nil, List.length_set, List.length_append, List.length_replicate, List.length_map, List.length_range, List.length_take, List.length_drop, nums_length, bools_length, vecs_length]; first | done | omega)) [A16, lx, ly, hl', hne]

/-- Bytes that a machine's slice may have. -/
structure Bys (L : List Int) : Prop where
  byte : ∀ y ∈ L, inK .u8 y
  short : L.length < 9223372036854775807

theorem sNew {R : Nat} (h0 : 8 ≤ R) (h1 : R ≤ 192) (h8 : R % 8 = 0) {X : Int} (x0 : 1 ≤ X) (x1 : X ≤ 127) : FF tab 8 [.i .i64 R, .i .u8 X] = some ⟨.tp [.op (spC (zL 25) R X 0 false), .nl], []⟩ := by
  rw [← spC_new]
  refine call_by (A := A8) rfl rfl ?_
  have a1 : ¬ (R : Int) < 8 := by omega
  have a2 : ¬ (192 : Int) < R := by omega
  have a3 : (R : Int).tmod 8 = 0 := by rw [Int.tmod_eq_emod_of_nonneg (by omega)]; omega
  have a4 : ¬ X = 0 := by omega
  have a5 : ¬ 127 < X := by omega
  simp (disch := first | assumption | omega | (simp only [List.length_cons, List.length_nil, List.length_set, List.length_append, List.length_replicate, List.length_map, List.length_range, List.length_take, List.length_drop, nums_length, bools_length, vecs_length]; first | done | omega)) [A8, a1, a2, a3, a4, a5]

theorem sAbsorb {A : List Ln} (hA : A.length = 25) {R p : Nat} (hR : R ≤ 192) (hp : p < R) (X : Int) {x : AV} {L : List Int} (hx : IsL .u8 x L) (hB : Bys L) :
    FF tab 12 [.op (spC A R X p false), x] = some ⟨.nl, [spC (takeL R (A, p) L).1 R X (takeL R (A, p) L).2 false]⟩ := by
  refine call_by (A := A12) rfl rfl ?_
  have fx := hx.flat
  have h28 := spC_28 (r := R) (x := X) (p := (p : Int)) (s := false) hA
  have ll := spC_len (r := R) (x := X) (p := (p : Int)) (s := false) hA
  have hT := sTake hA hR hp X false hx hB.byte hB.short
  generalize takeL R (A, p) L = S at *
  have lo := lent_one (spC S.1 R X S.2 false) (spC A R X p false) fx
  simp (disch := first | assumption | omega | (simp only [List.length_cons, List.length_nil, List.length_set, List.length_append, List.length_replicate, List.length_map, List.length_range, List.length_take, List.length_drop, nums_length, bools_length, vecs_length]; first | done | omega)) [A12, h28, hT, lo]
theorem sAbsorbT {A : List Ln} (hA : A.length = 25) (R p : Nat) (X : Int) {x : AV} (fx : x.flat = true) :
    FF tab 12 [.op (spC A R X p true), x] = some ⟨.er 1, [spC A R X p true]⟩ := by
  refine call_by (A := A12) rfl rfl ?_
  have h28 := spC_28 (r := R) (x := X) (p := (p : Int)) (s := true) hA
  have ll := spC_len (r := R) (x := X) (p := (p : Int)) (s := true) hA
  have lo := lent_one (spC A R X p true) (spC A R X p true) fx
  simp (disch := first | assumption | omega | (simp only [List.length_cons, List.length_nil, List.length_set, List.length_append, List.length_replicate, List.length_map, List.length_range, List.length_take, List.length_drop, nums_length, bools_length, vecs_length]; first | done | omega)) [A12, h28, lo]

set_option maxHeartbeats 4000000 in
theorem sAll {R : Nat} (hR0 : 0 < R) (hR : R ≤ 192) {X : Int} (x0 : 0 ≤ X) (x1 : X < 256) {n : Int} (n0 : 0 ≤ n) (n1 : n ≤ 1048576) {xs : List AV} {Ls : List (List Int)} (hx : IsLs .u8 xs Ls) (hB : ∀ L ∈ Ls, Bys L) (hm : xs.length < 9223372036854775807) :
    FF tab 59 [.i .i64 R, .i .u8 X, .i .i64 n, .sl xs xs.length] = some ⟨.tp [.sl (nums .u8 (outL R (padS R X (takeL R (zL 25, 0) Ls.flatten)) n.toNat)) n.toNat, .nl], []⟩ := by
  refine call_by (A := A59) rfl rfl ?_
  have hZ : (zL 25).length = 25 := zL_len 25
  simp (disch := first | assumption | omega | (simp only [List.length_cons, List.length_nil, List.length_set, List.length_append, List.length_replicate, List.length_map, List.length_range, List.length_take, List.length_drop, nums_length, bools_length, vecs_length]; first | done | omega)) [A59]
  refine w_heads xs.length (fun k => ⟨[(19, .i .i64 k), (18, .i .i64 xs.length), (17, .sl xs xs.length), (10, .rf 16 0), (2, .i .i64 n)], [(16, spC (takeL R (zL 25, 0) (Ls.take k).flatten).1 R X (takeL R (zL 25, 0) (Ls.take k).flatten).2 false)]⟩) (by simp (disch := first | assumption | omega | (simp only [List.length_cons, List.length_nil, List.length_set, List.length_append, List.length_replicate, List.length_map, List.length_range, List.length_take, List.length_drop, nums_length, bools_length, vecs_length]; first | done | omega)) [← spC_new, takeL_nil]) ?_ ?_
  · intro k hk
    have hkL : k < Ls.length := by rw [← hx.1]; exact hk
    have hl := hx.2 k hk hkL
    have hget : xs[k]? = some xs[k] := List.getElem?_eq_getElem hk
    have w1 : IntKind.i64.wrap ((k : Int) + 1) = (k : Int) + 1 := i64_in _ (by omega)
    have hkn : (k : Int).toNat = k := Int.toNat_natCast _
    have hlt : (k : Int) < (xs.length : Int) := by omega
    have fx := hl.flat
    obtain ⟨a1, a2⟩ := takeL_ok (R := R) (Ls.take k).flatten (S := (zL 25, 0)) hZ hR0
    have hs : takeL R (zL 25, 0) (Ls.take (k + 1)).flatten = takeL R (takeL R (zL 25, 0) (Ls.take k).flatten) Ls[k] := by
      rw [List.take_succ_eq_append_getElem hkL, List.flatten_append, takeL_app]; simp
    rw [hs]
    generalize takeL R (zL 25, 0) (Ls.take k).flatten = S at *
    obtain ⟨B, q⟩ := S
    simp only at a1 a2 ⊢
    have hT := sTake a1 hR a2 X false hl (hB _ (List.getElem_mem hkL)).byte (hB _ (List.getElem_mem hkL)).short
    have ll := spC_len (r := R) (x := X) (p := (q : Int)) (s := false) a1
    generalize takeL R (B, q) Ls[k] = S1 at *
    generalize xs[k] = x at *
    clear hs hl
    generalize hT' : (k : Int) = T at *
    simp (disch := first | assumption | omega | (simp only [List.length_cons, List.length_nil, List.length_set, List.length_append, List.length_replicate, List.length_map, List.length_range, List.length_take, List.length_drop, nums_length, bools_length, vecs_length]; first | done | omega)) [hkn, hget, hT, w1, hT']
  · have e : Ls.take xs.length = Ls := by rw [hx.1]; exact List.take_length
    rw [e]
    obtain ⟨a1, a2⟩ := takeL_ok (R := R) Ls.flatten (S := (zL 25, 0)) hZ hR0
    generalize takeL R (zL 25, 0) Ls.flatten = S at *
    obtain ⟨B, q⟩ := S
    simp only at a1 a2 ⊢
    have hQ := sSqueeze a1 hR0 hR a2 x0 x1 n0 n1
    have hnl := nums_length .u8 (outL R (padS R X (B, q)) n.toNat)
    generalize outL R (padS R X (B, q)) n.toNat = O at *
    generalize nextN R (padS R X (B, q)) n.toNat = N1 at *
    simp (disch := first | assumption | omega | (simp only [List.length_cons, List.length_nil, List.length_set, List.length_append, List.length_replicate, List.length_map, List.length_range, List.length_take, List.length_drop, nums_length, bools_length, vecs_length]; first | done | omega)) [hQ]

theorem sSum256 {x : AV} {L : List Int} (hx : IsL .u8 x L) (hB : Bys L) : FF tab 27 [x] = some ⟨.sl (nums .u8 (outL 136 (padS 136 6 (takeL 136 (zL 25, 0) L)) 32)) 32, []⟩ := by
  refine call_by (A := A27) rfl rfl ?_
  have fx := hx.flat
  have h := sAll (R := 136) (by omega) (by omega) (X := 6) (by omega) (by omega) (n := 32) (by omega) (by omega) (IsLs.one hx) (by intro K hK; rcases List.mem_cons.1 hK with rfl | hK; exact hB; cases hK) (by simp)
  rw [show [L].flatten = L by simp, show [x].length = 1 from rfl, show (32 : Int).toNat = 32 from rfl, show ((136 : Nat) : Int) = 136 from rfl] at h
  generalize outL 136 (padS 136 6 (takeL 136 (zL 25, 0) L)) 32 = O at *
  simp (disch := first | assumption | omega | (simp only [List.length_cons, List.length_nil, List.length_set, List.length_append, List.length_replicate, List.length_map, List.length_range, List.length_take, List.length_drop, nums_length, bools_length, vecs_length]; first | done | omega)) [A27, h]
end Zab.YtjnomoefbffpoaaDoorB
