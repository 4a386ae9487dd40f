/- The document's streams. -/
import Derived.Test.YtngoidkconngmaaDoorZabY
import Derived.Test.YtngoidkconngmaaDoorGStr
namespace Zab.YtngoidkconngmaaDoorG
open Go
open Go.IntWalk (i64_in)
set_option maxRecDepth 100000
set_option linter.unusedSimpArgs false
set_option linter.unusedVariables false
attribute [-simp] getElem?_pos

theorem strB_flat' (R : Nat) (X : Int) (T : List Ln × Nat) (k : Nat) : (strB R X T k).flat = true := strB_flat R X T k
theorem IsV.two {y u : AV} {L M : List Int} (h : IsL .u8 y L) (h2 : IsL .u8 u M) : IsV (.sl [y, u] 2) [y, u] [L, M] :=
  ⟨.inl rfl, rfl, fun j h3 h4 => by
    match j, h3 with
    | 0, _ => exact h
    | 1, _ => exact h2⟩
theorem two_bys {L M : List Int} (h : Bys L) (h2 : Bys M) : ∀ K ∈ [L, M], Bys K := by
  intro K hK; rcases List.mem_cons.1 hK with rfl | hK; exact h; exact one_bys h2 K hK

set_option maxHeartbeats 4000000 in
theorem dOpen {R : Nat} (hR0 : 0 < R) (hR : R ≤ 192) {x : AV} {xs : List AV} {Ls : List (List Int)} (hv : IsV x xs Ls) (hB : ∀ L ∈ Ls, Bys L) (hm : xs.length < 9223372036854775807) :
    FF tab 76 [.i .i64 R, x] = some ⟨.aq [.op (strD R 31 (takeL R (zL 25, 0) Ls.flatten) 0)], []⟩ := by
  refine call_by (A := A76) rfl rfl ?_
  have hx := hv.ls
  have fv := hv.flat
  have lv := hv.len
  have hZ : (zL 25).length = 25 := zL_len 25
  have hN := dNew R 31
  simp only [strD]
  simp (disch := first | assumption | omega | (simp only [List.length_cons, List.length_nil, List.length_set, List.length_append, List.length_replicate, List.length_map, List.length_range, List.length_take, List.length_drop, nums_length, bools_length, vecs_length]; first | done | omega)) [A76, hN]
  refine w_heads xs.length (fun k => ⟨[(6, .i .i64 k), (5, .rf 8 0), (4, .rf 1000000000004 0), (1, x)], [(1000000000004, [.np]), (8, spD (takeL R (zL 25, 0) (Ls.take k).flatten).1 R 31 (takeL R (zL 25, 0) (Ls.take k).flatten).2 false)]⟩) (by simp (disch := first | assumption | omega | (simp only [List.length_cons, List.length_nil, List.length_set, List.length_append, List.length_replicate, List.length_map, List.length_range, List.length_take, List.length_drop, nums_length, bools_length, vecs_length]; first | done | omega)) [takeL_nil]) ?_ ?_
  · intro k hk
    have hkL : k < Ls.length := by rw [← hx.1]; exact hk
    have hl := hx.2 k hk hkL
    have hix := hv.ix hk
    have hget : xs[k]? = some xs[k] := List.getElem?_eq_getElem hk
    have w1 : IntKind.i64.wrap ((k : Int) + 1) = (k : Int) + 1 := i64_in _ (by omega)
    have hlt : (k : Int) < (xs.length : Int) := by omega
    have fx := hl.flat
    obtain ⟨a1, a2⟩ := takeL_ok (R := R) (Ls.take k).flatten (S := (zL 25, 0)) hZ hR0
    have hs : takeL R (zL 25, 0) (Ls.take (k + 1)).flatten = takeL R (takeL R (zL 25, 0) (Ls.take k).flatten) Ls[k] := by
      rw [List.take_succ_eq_append_getElem hkL, List.flatten_append, takeL_app]; simp
    rw [hs]
    generalize takeL R (zL 25, 0) (Ls.take k).flatten = S at *
    obtain ⟨B, q⟩ := S
    simp only at a1 a2 ⊢
    have hT := dAbsorb a1 hR a2 31 hl (hB _ (List.getElem_mem hkL))
    have ll := spD_len (r := R) (x := 31) (p := (q : Int)) (s := false) a1
    generalize takeL R (B, q) Ls[k] = S1 at *
    generalize xs[k] = x at *
    clear hs hl hx hv
    generalize hT' : (k : Int) = T at *
    simp (disch := first | assumption | omega | (simp only [List.length_cons, List.length_nil, List.length_set, List.length_append, List.length_replicate, List.length_map, List.length_range, List.length_take, List.length_drop, nums_length, bools_length, vecs_length]; first | done | omega)) [lv, hix, hget, hT, w1, hT']
  · have e : Ls.take xs.length = Ls := by rw [hx.1]; exact List.take_length
    rw [e]
    generalize takeL R (zL 25, 0) Ls.flatten = S at *
    simp (disch := first | assumption | omega | (simp only [List.length_cons, List.length_nil, List.length_set, List.length_append, List.length_replicate, List.length_map, List.length_range, List.length_take, List.length_drop, nums_length, bools_length, vecs_length]; first | done | omega)) [lv]

set_option maxHeartbeats 4000000 in
theorem dNext1 {C C' : List AV} {y : Int} (y0 : 0 ≤ y) (y1 : y < 256) (hS : FF tab 143 [.op C, .i .i64 1] = some ⟨.tp [.os (nums .u8 [y]) 1 1, .i .i64 0], [C']⟩) :
    FF tab 77 [.aq [.op C]] = some ⟨.i .i64 y, [C']⟩ := by
  refine call_by (A := A77) rfl rfl ?_
  have wy : IntKind.i64.wrap y = y := i64_in _ (by omega)
  simp (disch := first | assumption | omega | (simp only [List.length_cons, List.length_nil, List.length_set, List.length_append, List.length_replicate, List.length_map, List.length_range, List.length_take, List.length_drop, nums_length, bools_length, vecs_length]; first | done | omega)) [A77, hS, wy, nums_cons, nums_nil]

theorem dNext {R : Nat} {X : Int} {T : List Ln × Nat} (hT : T.1.length = 25) (hR0 : 0 < R) (hR : R ≤ 192) (hp : T.2 < R) (x0 : 0 ≤ X) (x1 : X < 256) (k : Nat) :
    FF tab 77 [.aq [.op (strD R X T k)]] = some ⟨.i .i64 (bt R (padS R X T) k), [strD R X T (k + 1)]⟩ := by
  have hS := padS_ok (R := R) hT X
  have hS2 : (padS R X T).2 = 0 := rfl
  obtain ⟨A, p⟩ := T
  simp only at hT hp
  generalize hSS : padS R X (A, p) = S at *
  have hb := bt_in R S k
  refine dNext1 hb.1 hb.2 ?_
  have e1 : ∀ a, outL R (nextN R S a) 1 = [bt R S a] := fun a => by rw [bts_outL]; rfl
  match k with
  | 0 =>
    have h1 := dSqueeze hT hR0 hR hp x0 x1 (n := 1) (by omega) (by omega)
    rw [hSS, show (1 : Int).toNat = 1 from rfl, show outL R S 1 = [bt R S 0] from e1 0] at h1
    simp only [strD, hSS]
    exact h1
  | j + 1 =>
    have hn := nextN_ok (R := R) (S := S) hR0 hS (by omega) (j + 1)
    have h1 := dSqueezeT hn.1 hR0 hR hn.2 X (n := 1) (by omega) (by omega)
    rw [show (1 : Int).toNat = 1 from rfl, show ((nextN R S (j + 1)).1, (nextN R S (j + 1)).2) = nextN R S (j + 1) from rfl, e1, show nextN R (nextN R S (j + 1)) 1 = nextN R S (j + 1 + 1) from (nextN_add R S (j + 1) 1).symm] at h1
    simp only [strD, hSS]
    exact h1
end Zab.YtngoidkconngmaaDoorG
