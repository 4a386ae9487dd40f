/- The statements of chapter 5: sums. -/
import Derived.Test.YtjnomoefbffpoaaDoorZabY
import Derived.Test.YtjnomoefbffpoaaDoorBSpoF
import Derived.Test.YtjnomoefbffpoaaDoorBSpo3
import Derived.Test.YtjnomoefbffpoaaDoorBSee
namespace Zab.YtjnomoefbffpoaaDoorB
open Go
open Go.IntWalk (i64_in)
set_option maxRecDepth 100000
set_option linter.unusedSimpArgs false
set_option linter.unusedVariables false
attribute [-simp] getElem?_pos
attribute [local simp] sees_nil sees_rf sees_i sees_sl sees_z sees_rs sees_fl

/-- Lists of bytes, as a slice or as none. -/
structure IsV (x : AV) (xs : List AV) (Ls : List (List Int)) : Prop where
  ex : x = .sl xs xs.length ∨ (x = .z ∧ xs = [])
  ls : IsLs .u8 xs Ls
section
variable {x : AV} {xs : List AV} {Ls : List (List Int)}
theorem IsV.flat (h : IsV x xs Ls) : x.flat = true := by rcases h.ex with rfl | ⟨rfl, _⟩ <;> rfl
theorem IsV.len (h : IsV x xs Ls) : lenV x = some (.i .i64 xs.length) := by rcases h.ex with rfl | ⟨rfl, rfl⟩ <;> rfl
theorem IsV.ix (h : IsV x xs Ls) {k : Nat} (hk : k < xs.length) : ixSV 1 x (.i .i64 (k : Int)) = some (.el xs k) := by
  rcases h.ex with rfl | ⟨rfl, rfl⟩
  · have b1 : Nat.blt k xs.length = true := by simpa using hk
    simp [ixSV, b1, hk]
  · simp at hk
end
theorem sBad {A : List Ln} (R : Int) (p : Nat) (X : Int) (s : Bool) {n : Int} (hn : n < 0 ∨ 1048576 < n) :
    FF tab 14 [.op (spC A R X p s), .i .i64 n] = some ⟨.tp [.z, .er 0], [spC A R X p s]⟩ := by
  refine call_by (A := A14) rfl rfl ?_
  have lo : lentOf [(0, spC A R X p s)] 0 [.op (spC A R X p s), .i .i64 n] = some ([spC A R X p s], []) := rfl
  by_cases h0 : n < 0
  · simp (disch := first | assumption | omega | (simp only [List.length_cons, List.length_nil, List.length_set, List.length_append, List.length_replicate, List.length_map, List.length_range, List.length_take, List.length_drop, nums_length, bools_length, vecs_length]; first | done | omega)) [A14, h0, lo]
  · have h1 : 1048576 < n := by omega
    simp (disch := first | assumption | omega | (simp only [List.length_cons, List.length_nil, List.length_set, List.length_append, List.length_replicate, List.length_map, List.length_range, List.length_take, List.length_drop, nums_length, bools_length, vecs_length]; first | done | omega)) [A14, h0, h1, lo]
set_option maxHeartbeats 4000000 in
theorem sAllV {R : Nat} (hR0 : 0 < R) (hR : R ≤ 192) {X : Int} (x0 : 0 ≤ X) (x1 : X < 256) (n : Int) {x : AV} {xs : List AV} {Ls : List (List Int)} (hv : IsV x xs Ls) (hB : ∀ L ∈ Ls, Bys L) (hm : xs.length < 9223372036854775807) :
    FF tab 59 [.i .i64 R, .i .u8 X, .i .i64 n, x] = some ⟨if n < 0 ∨ 1048576 < n then .tp [.z, .er 0] else .tp [.sl (nums .u8 (outL R (padS R X (takeL R (zL 25, 0) Ls.flatten)) n.toNat)) n.toNat, .nl], []⟩ := by
  refine call_by (A := A59) rfl rfl ?_
  have hx := hv.ls
  have fv := hv.flat
  have lv := hv.len
  have hZ : (zL 25).length = 25 := zL_len 25
  simp (disch := first | assumption | omega | (simp only [List.length_cons, List.length_nil, List.length_set, List.length_append, List.length_replicate, List.length_map, List.length_range, List.length_take, List.length_drop, nums_length, bools_length, vecs_length]; first | done | omega)) [A59, lv]
  refine w_heads xs.length (fun k => ⟨[(19, .i .i64 k), (18, .i .i64 xs.length), (17, x), (10, .rf 16 0), (2, .i .i64 n)], [(16, spC (takeL R (zL 25, 0) (Ls.take k).flatten).1 R X (takeL R (zL 25, 0) (Ls.take k).flatten).2 false)]⟩) (by simp (disch := first | assumption | omega | (simp only [List.length_cons, List.length_nil, List.length_set, List.length_append, List.length_replicate, List.length_map, List.length_range, List.length_take, List.length_drop, nums_length, bools_length, vecs_length]; first | done | omega)) [← spC_new, takeL_nil]) ?_ ?_
  · intro k hk
    have hkL : k < Ls.length := by rw [← hx.1]; exact hk
    have hl := hx.2 k hk hkL
    have hix := hv.ix hk
    have hget : xs[k]? = some xs[k] := List.getElem?_eq_getElem hk
    have w1 : IntKind.i64.wrap ((k : Int) + 1) = (k : Int) + 1 := i64_in _ (by omega)
    have hlt : (k : Int) < (xs.length : Int) := by omega
    have fx := hl.flat
    obtain ⟨a1, a2⟩ := takeL_ok (R := R) (Ls.take k).flatten (S := (zL 25, 0)) hZ hR0
    have hs : takeL R (zL 25, 0) (Ls.take (k + 1)).flatten = takeL R (takeL R (zL 25, 0) (Ls.take k).flatten) Ls[k] := by
      rw [List.take_succ_eq_append_getElem hkL, List.flatten_append, takeL_app]; simp
    rw [hs]
    generalize takeL R (zL 25, 0) (Ls.take k).flatten = S at *
    obtain ⟨B, q⟩ := S
    simp only at a1 a2 ⊢
    have hT := sTake a1 hR a2 X false hl (hB _ (List.getElem_mem hkL)).byte (hB _ (List.getElem_mem hkL)).short
    have ll := spC_len (r := R) (x := X) (p := (q : Int)) (s := false) a1
    generalize takeL R (B, q) Ls[k] = S1 at *
    generalize xs[k] = x at *
    clear hs hl hx hv
    generalize hT' : (k : Int) = T at *
    simp (disch := first | assumption | omega | (simp only [List.length_cons, List.length_nil, List.length_set, List.length_append, List.length_replicate, List.length_map, List.length_range, List.length_take, List.length_drop, nums_length, bools_length, vecs_length]; first | done | omega)) [hix, hget, hT, w1, hT']
  · have e : Ls.take xs.length = Ls := by rw [hx.1]; exact List.take_length
    rw [e]
    obtain ⟨a1, a2⟩ := takeL_ok (R := R) Ls.flatten (S := (zL 25, 0)) hZ hR0
    generalize takeL R (zL 25, 0) Ls.flatten = S at *
    obtain ⟨B, q⟩ := S
    simp only at a1 a2 ⊢
    by_cases hn : n < 0 ∨ 1048576 < n
    · rw [if_pos hn]
      have hQ := sBad (A := B) R q X false hn
      clear hn
      simp (disch := first | assumption | omega | (simp only [List.length_cons, List.length_nil, List.length_set, List.length_append, List.length_replicate, List.length_map, List.length_range, List.length_take, List.length_drop, nums_length, bools_length, vecs_length]; first | done | omega)) [hQ]
    · rw [if_neg hn]
      have hQ := sSqueeze a1 hR0 hR a2 x0 x1 (n := n) (by omega) (by omega)
      have hnl := nums_length .u8 (outL R (padS R X (B, q)) n.toNat)
      generalize outL R (padS R X (B, q)) n.toNat = O at *
      generalize nextN R (padS R X (B, q)) n.toNat = N1 at *
      simp (disch := first | assumption | omega | (simp only [List.length_cons, List.length_nil, List.length_set, List.length_append, List.length_replicate, List.length_map, List.length_range, List.length_take, List.length_drop, nums_length, bools_length, vecs_length]; first | done | omega)) [hQ]
theorem dNew (R X : Int) : FF tab 11 [.i .i64 R, .i .u8 X] = some ⟨.op (spD (zL 25) R X 0 false), []⟩ := by
  rw [← spD_new]
  refine call_by (A := A11) rfl rfl ?_
  simp (disch := first | assumption | omega | (simp only [List.length_cons, List.length_nil, List.length_set, List.length_append, List.length_replicate, List.length_map, List.length_range, List.length_take, List.length_drop, nums_length, bools_length, vecs_length]; first | done | omega)) [A11]
theorem IsV.one {y : AV} {L : List Int} (h : IsL .u8 y L) : IsV (.sl [y] 1) [y] [L] := ⟨.inl rfl, .one h⟩
theorem one_bys {L : List Int} (h : Bys L) : ∀ K ∈ [L], Bys K := by intro K hK; rcases List.mem_cons.1 hK with rfl | hK; exact h; cases hK
end Zab.YtjnomoefbffpoaaDoorB
