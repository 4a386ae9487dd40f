/- Vectors of numbers between bounds, as bytes: both functions. -/
import Derived.Test.YtbmhaamjajoggaaDoorZabY
import Derived.Test.YtbmhaamjajoggaaDoorBWirA
import Derived.Test.YtbmhaamjajoggaaDoorBPackB
import Derived.Test.YtbmhaamjajoggaaDoorBPackS
namespace Zab.YtbmhaamjajoggaaDoorB
open Go
open Go.IntWalk (i64_in)
set_option maxRecDepth 100000
set_option linter.unusedSimpArgs false
set_option linter.unusedVariables false
attribute [-simp] getElem?_pos

/-- Bounds that may be, and how many bits they take: of both functions. -/
structure Bnd (low high : Int) (d : Nat) : Prop where
  l0 : 0 ≤ low
  l1 : low ≤ 8388608
  h0 : 0 ≤ high
  h1 : high ≤ 8388608
  hs : 0 < low + high
  d1 : 1 ≤ d
  d24 : d ≤ 24
  hd : low + high < ((2 ^ d : Nat) : Int)
  hp : FF tab 58 [.i .i64 (low + high)] = some ⟨.i .i64 d, []⟩
  hw : FF tab 60 [.i .i64 (low + high)] = some ⟨.i .i64 d, []⟩
theorem belTo (high : Int) (L : List Int) : (List.range L.length).map (fun j => high - ni L j) = bel high L := mapTo_of (fun a => high - a) L
set_option maxHeartbeats 8000000 in
theorem pSigned {low high : Int} {d : Nat} (b : Bnd low high d) {x : AV} {L : List Int} (hx : IsL .i64 x L) (hl : L.length ≤ 100000) (h8 : d * L.length % 8 = 0) :
    FF tab 72 [.i .i64 low, .i .i64 high, x] = some ⟨if Rng low high L then .tp [.sl (nums .u8 (sgB high d L)) (d * L.length / 8), .nl] else .tp [.z, .er 2], []⟩ := by
  obtain ⟨l0, l1, h0, h1, hs, d1, d24, hd, hW, _⟩ := b
  refine call_by (A := A72) rfl rfl ?_
  have fx := hx.flat
  have lx := lenV_isL hx
  have hF := pFair l0 l1 h0 h1 hs
  have w : IntKind.i64.wrap (low + high) = low + high := i64_in _ (by omega)
  have wn : IntKind.i64.wrap (-low) = -low := i64_in _ (by omega)
  have k1 : (0 : Int) ≤ (L.length : Int) := by omega
  have k2 : (L.length : Int) * 8 ≤ 140737488355328 := by omega
  have k3 : (L.length : Int).toNat = L.length := Int.toNat_natCast _
  have tl := fillTo_len (fun j => high - ni L j) L.length
  simp (disch := first | assumption | omega | (simp only [lenS]; first | done | omega)) [A72, hF, lx, k1, k2, k3]
  refine w_headsP L.length (fun k => ⟨[(21, .i .i64 k), (20, .i .i64 L.length), (19, x), (8, .rs 18 0 L.length 1), (1, .i .i64 high), (0, .i .i64 low)], [(18, nums .i64 (fillTo (fun j => high - ni L j) L.length k))]⟩) (fun k => ∀ j, j < k → -low ≤ ni L j ∧ ni L j ≤ high) (by simp (disch := first | assumption | omega | (simp only [lenS]; first | done | omega)) [fillTo_zero, nums_zrep]) (fun j h => by omega) ?_ ?_
  · intro k hk hp
    have w1 : IntKind.i64.wrap ((k : Int) + 1) = (k : Int) + 1 := i64_in _ (by omega)
    have tn : (k : Int).toNat = k := Int.toNat_natCast _
    have ix := ixSV_isL hx (k' := .i64) (j := (k : Int)) (by omega) (by omega)
    rw [tn] at ix
    have gx := nums_get (k := .i64) hk
    have hlt : (k : Int) < (L.length : Int) := by omega
    by_cases b1 : ni L k < -low
    · have hne : ¬ Rng low high L := fun h => by have := h.ni hk; omega
      rw [if_neg hne]
      simp (disch := first | assumption | omega | (simp only [lenS]; first | done | omega)) [hlt, ix, gx, wn, b1]
    · by_cases b2 : high < ni L k
      · have hne : ¬ Rng low high L := fun h => by have := h.ni hk; omega
        rw [if_neg hne]
        simp (disch := first | assumption | omega | (simp only [lenS]; first | done | omega)) [hlt, ix, gx, wn, b1, b2]
      · have t0 := tl k
        have st := fillTo_set (fun j => high - ni L j) (N := L.length) hk
        have ws : IntKind.i64.wrap (high - ni L k) = high - ni L k := i64_in _ (by omega)
        generalize fillTo (fun j => high - ni L j) L.length (k + 1) = T1 at *
        generalize fillTo (fun j => high - ni L j) L.length k = T0 at *
        have hp2 : ∀ j, j < k + 1 → -low ≤ ni L j ∧ ni L j ≤ high := fun j hj => by
          by_cases e : j = k
          · subst e; omega
          · exact hp j (by omega)
        generalize hG : high - ni L k = G at *
        simp (disch := first | assumption | omega | (simp only [lenS]; first | done | omega)) [hlt, ix, gx, wn, b1, b2, tn, t0, st, ws, hG, w1, hp2]
        try exact hp2
  · intro hp
    have hR : Rng low high L := Rng.of_ni hp
    rw [if_pos hR, fillTo_all, belTo]
    have hB := pBits d1 d24 (x := .sl (nums .i64 (bel high L)) L.length) (L := bel high L) (.inl (by rw [slv, bel_len])) (by rw [bel_len]; exact hl) (by rw [bel_len]; exact h8) (bel_in hR hd)
    rw [bel_len] at hB
    have bl := bel_len high L
    unfold sgB
    generalize bel high L = T at *
    simp (disch := first | assumption | omega | (simp only [lenS]; first | done | omega)) [w, hW, hB, bl]
set_option maxHeartbeats 8000000 in
theorem dSigned {low high : Int} {d : Nat} (b : Bnd low high d) {x : AV} {L : List Int} (hx : IsL .i64 x L) (hl : L.length ≤ 100000) (h8 : d * L.length % 8 = 0) :
    FF tab 78 [.i .i64 low, .i .i64 high, x] = some ⟨if Rng low high L then .tp [.sl (nums .u8 (sgB high d L)) (d * L.length / 8), .i .i64 0] else .tp [.z, .i .i64 101], []⟩ := by
  obtain ⟨l0, l1, h0, h1, hs, d1, d24, hd, _, hW⟩ := b
  refine call_by (A := A78) rfl rfl ?_
  have fx := hx.flat
  have lx := lenV_isL hx
  have hF := dEnds l0 l1 h0 h1 hs
  have w : IntKind.i64.wrap (low + high) = low + high := i64_in _ (by omega)
  have wn : IntKind.i64.wrap (-low) = -low := i64_in _ (by omega)
  simp (disch := first | assumption | omega | (simp only [lenS]; first | done | omega)) [A78, hF]
  refine w_headsP L.length (fun k => ⟨[(9, .i .i64 k), (8, .rs 8 0 ((List.range k).map fun j => high - ni L j).length 1), (2, x), (1, .i .i64 high), (0, .i .i64 low)], [(8, nums .i64 ((List.range k).map fun j => high - ni L j))]⟩) (fun k => ∀ j, j < k → -low ≤ ni L j ∧ ni L j ≤ high) (by simp (disch := first | assumption | omega | (simp only [lenS]; first | done | omega)) [nums_nil]) (fun j h => by omega) ?_ ?_
  · intro k hk hp
    have w1 : IntKind.i64.wrap ((k : Int) + 1) = (k : Int) + 1 := i64_in _ (by omega)
    have tn : (k : Int).toNat = k := Int.toNat_natCast _
    have ix := ixSV_isL hx (k' := .i64) (j := (k : Int)) (by omega) (by omega)
    rw [tn] at ix
    have gx := nums_get (k := .i64) hk
    have hlt : (k : Int) < (L.length : Int) := by omega
    by_cases b1 : ni L k < -low
    · have hne : ¬ Rng low high L := fun h => by have := h.ni hk; omega
      rw [if_neg hne]
      simp (disch := first | assumption | omega | (simp only [lenS]; first | done | omega)) [lx, hlt, ix, gx, wn, b1]
    · by_cases b2 : high < ni L k
      · have hne : ¬ Rng low high L := fun h => by have := h.ni hk; omega
        rw [if_neg hne]
        simp (disch := first | assumption | omega | (simp only [lenS]; first | done | omega)) [lx, hlt, ix, gx, wn, b1, b2]
      · have ws : IntKind.i64.wrap (high - ni L k) = high - ni L k := i64_in _ (by omega)
        have hp2 : ∀ j, j < k + 1 → -low ≤ ni L j ∧ ni L j ≤ high := fun j hj => by
          by_cases e : j = k
          · subst e; omega
          · exact hp j (by omega)
        have hl0 : ((List.range k).map fun j => high - ni L j).length = k := by simp
        rw [mapTo_succ]
        generalize (List.range k).map (fun j => high - ni L j) = T0 at *
        have hb1 : ((T0.length : Int) + 1) * 8 ≤ 140737488355328 := by omega
        generalize hG : high - ni L k = G at *
        simp (disch := first | assumption | omega | (simp only [lenS]; first | done | omega)) [lx, hlt, ix, gx, wn, b1, b2, ws, hG, w1, hp2, hb1]
        try exact hp2
  · intro hp
    have hR : Rng low high L := Rng.of_ni hp
    rw [if_pos hR, belTo]
    have bl := bel_len high L
    have hB := dBits d1 d24 (x := .sl (nums .i64 (bel high L)) L.length) (L := bel high L) (.inl (by rw [slv, bel_len])) (by rw [bel_len]; exact hl) (by rw [bel_len]; exact h8) (bel_in hR hd)
    rw [bel_len] at hB
    unfold sgB
    generalize bel high L = T at *
    simp (disch := first | assumption | omega | (simp only [lenS]; first | done | omega)) [lx, bl, w, hW, hB]
theorem pClone {L : List Int} (h0 : 0 < L.length) (hl : L.length ≤ 100000) : FF tab 43 [.sl (nums .u8 L) L.length] = some ⟨.os (nums .u8 L) L.length 1, []⟩ := by
  refine call_by (A := A43) rfl rfl ?_
  have hb : (L.length : Int) * 1 ≤ 140737488355328 := by omega
  simp (disch := first | assumption | omega | (simp only [lenS]; first | done | omega)) [A43, hb, h0]
theorem dBytes {x : AV} {L : List Int} (hx : IsL .u8 x L) (hl : L.length ≤ 100000) : FF tab 52 [x] = some ⟨.os (nums .u8 L) L.length 1, []⟩ := by
  refine call_by (A := A52) rfl rfl ?_
  have fx := hx.flat
  have lx := lenV_isL hx
  have k1 : (0 : Int) ≤ (L.length : Int) := by omega
  have k2 : (L.length : Int) * 1 ≤ 140737488355328 := by omega
  simp (disch := first | assumption | omega | (simp only [lenS]; first | done | omega)) [A52, lx, k1, k2]
  refine w_heads L.length (fun k => ⟨[(4, .i .i64 k), (3, .rs 7 0 (L.take k).length 1), (0, x)], [(7, nums .u8 (L.take k))]⟩) (by simp (disch := first | assumption | omega | (simp only [lenS]; first | done | omega)) [nums_nil, zrep]) ?_ ?_
  · intro k hk
    have w1 : IntKind.i64.wrap ((k : Int) + 1) = (k : Int) + 1 := i64_in _ (by omega)
    have tn : (k : Int).toNat = k := Int.toNat_natCast _
    have ix := ixSV_isL hx (k' := .i64) (j := (k : Int)) (by omega) (by omega)
    rw [tn] at ix
    have gx := nums_get (k := .u8) hk
    have hlt : (k : Int) < (L.length : Int) := by omega
    rw [take_one hk, ← ni_get hk]
    have hl0 : (L.take k).length ≤ 100000 := by rw [List.length_take]; omega
    generalize L.take k = T0 at *
    have hb1 : ((T0.length : Int) + 1) * 1 ≤ 140737488355328 := by omega
    generalize ni L k = y at *
    simp (disch := first | assumption | omega | (simp only [lenS]; first | done | omega)) [lx, hlt, ix, gx, w1, hb1]
  · rw [List.take_length]
    simp (disch := first | assumption | omega | (simp only [lenS]; first | done | omega)) [lx]
end Zab.YtbmhaamjajoggaaDoorB
