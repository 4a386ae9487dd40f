/- Hints out of bytes: the program's function. -/
import Derived.Test.YtbmhaamjajoggaaDoorZabY
import Derived.Test.YtbmhaamjajoggaaDoorBWirE
import Derived.Test.YtbmhaamjajoggaaDoorBWirG
namespace Zab.YtbmhaamjajoggaaDoorB
open Go
open Go.IntWalk (i64_in)
set_option maxRecDepth 100000
set_option linter.unusedSimpArgs false
set_option linter.unusedVariables false
attribute [-simp] getElem?_pos

theorem bNot0 (y : Int) : FF tab 75 [.i .u8 y] = some ⟨.b (!decide (y = 0)), []⟩ := by
  refine call_by (A := A75) rfl rfl ?_
  simp (disch := first | assumption | omega | (simp only [lenS]; first | done | omega)) [A75]
theorem atH_ok {Y : List Int} {om i : Nat} (h : ∀ j, j < i → okI Y om j) (hY : ∀ k, 0 ≤ ni Y k) : ∃ a : Nat, atH Y om i = (a : Int) ∧ a ≤ om := by
  cases i with
  | zero => exact ⟨0, rfl, Nat.zero_le _⟩
  | succ i =>
    have h1 := (h i (Nat.lt_succ_self i)).2.1
    have h2 := hY (om + i)
    rw [atH_next]
    exact ⟨(ni Y (om + i)).toNat, by omega, by omega⟩
theorem ni_byte {Y : List Int} (hI : ∀ y ∈ Y, inK .u8 y) (k : Nat) : 0 ≤ ni Y k ∧ ni Y k < 256 := by
  by_cases h : k < Y.length
  · rw [ni_get h]; exact by8_in hI _ (List.getElem_mem h)
  · unfold ni; rw [List.getD_eq_getElem?_getD, List.getElem?_eq_none (by omega)]; exact ⟨by decide, by decide⟩
theorem wu8 {y : Int} (h : 0 ≤ y ∧ y < 256) : IntKind.i64.wrap y = y := i64_in _ (by omega)
theorem okR_iff {Y : List Int} {om K a : Nat} (hP : ∀ j, j < K → okI Y om j) (ha : atH Y om K = (a : Int)) (ha2 : a ≤ om) (hY : om ≤ Y.length) :
    (¬ ∃ k, k < om - a ∧ (!decide (ni ((Y.drop a).take (om - a)) k = 0)) = true) ↔ okR Y om K := by
  have hQn : ∀ j, j < om - a → ni ((Y.drop a).take (om - a)) j = ni Y (a + j) := fun j hj => by
    simp only [ni, List.getD_eq_getElem?_getD]
    rw [List.getElem?_take_of_lt hj, List.getElem?_drop]
  unfold okR
  rw [ha, Int.toNat_natCast]
  constructor
  · intro h
    refine ⟨hP, fun k h1 h2 => Classical.byContradiction fun hn => h ⟨k - a, by omega, ?_⟩⟩
    have e := hQn (k - a) (by omega)
    rw [show a + (k - a) = k by omega] at e
    simp only [e, Bool.not_eq_true', decide_eq_false_iff_not]
    exact hn
  · rintro ⟨_, h⟩ ⟨k, hk, hp⟩
    have e := hQn k hk
    simp only [e, Bool.not_eq_true', decide_eq_false_iff_not] at hp
    exact hp (h (a + k) (by omega) (by omega))
set_option maxHeartbeats 16000000 in
theorem pReadHints {K om : Nat} {b c d e f g st : Int} (K1 : 1 ≤ K) (hK : K ≤ 20) (hom : om ≤ 100) {Y : List Int} (hI : ∀ y ∈ Y, inK .u8 y) (hl : Y.length = om + K) :
    FF tab 46 [.ag (seven K b c d e f g om st), .sl (nums .u8 Y) Y.length] = some ⟨if okR Y om K then .tp [.os (hins (hinR Y om K)) K 1, .b true] else .tp [.z, .b false], []⟩ := by
  refine call_by (A := A46) rfl rfl ?_
  have hx : IsL .u8 (.sl (nums .u8 Y) Y.length) Y := .inl rfl
  generalize AV.sl (nums .u8 Y) Y.length = x at *
  have fx := hx.flat
  have bY := ni_byte hI
  simp (disch := first | assumption | omega | (simp only [lenS]; first | done | omega)) [A46, seven]
  refine w_headsP K (fun i => ⟨[(14, .i .i64 i), (13, .i .i64 K), (7, .i .i64 (atH Y om i)), (6, .rs 6 0 i 1), (2, .rf 2 0), (1, x)], [(6, hins (hinR Y om i)), (2, seven K b c d e f g om st)]⟩) (fun i => ∀ j, j < i → okI Y om j) (by simp (disch := first | assumption | omega | (simp only [lenS]; first | done | omega)) [atH, hinR, hins, seven]) (fun j h => by omega) ?_ ?_
  · intro i hi hP
    have w1 : IntKind.i64.wrap ((i : Int) + 1) = (i : Int) + 1 := i64_in _ (by omega)
    have hlt : (i : Int) < (K : Int) := by omega
    have wo : IntKind.i64.wrap ((om : Int) + (i : Int)) = ((om + i : Nat) : Int) := by rw [show (om : Int) + (i : Int) = ((om + i : Nat) : Int) by omega]; exact i64_in _ (by omega)
    have ix := ixSV_isL hx (k' := .i64) (j := ((om + i : Nat) : Int)) (by omega) (by omega)
    rw [Int.toNat_natCast] at ix
    have gx := nums_get (k := .u8) (L := Y) (j := om + i) (by omega)
    obtain ⟨z0, z1⟩ := bY (om + i)
    have wz := wu8 ⟨z0, z1⟩
    obtain ⟨a, ha, ha2⟩ := atH_ok hP fun k => (bY k).1
    obtain ⟨z, hz⟩ : ∃ z : Nat, ni Y (om + i) = (z : Int) := ⟨(ni Y (om + i)).toNat, by omega⟩
    have hnx := atH_next Y om i
    have hrn := hinR_next Y om i
    have hrl := hinR_len Y om i
    have hbad : ¬ okI Y om i → ¬ okR Y om K := fun h h2 => h (h2.1 i hi)
    have hokI : okI Y om i ↔ (a : Int) ≤ z ∧ (z : Int) ≤ om ∧ ∀ k, a < k → k < z → ni Y (k - 1) < ni Y k := by unfold okI; rw [ha, hz, Int.toNat_natCast, Int.toNat_natCast]
    rw [hnx]
    rw [ha] at hrn
    rw [hz] at gx wz hrn ⊢
    rw [Int.toNat_natCast, Int.toNat_natCast] at hrn
    rw [ha]
    clear hnx ha hz
    generalize ((om + i : Nat) : Int) = O1 at *
    generalize om + i = O2 at *
    by_cases c1 : (z : Int) < (a : Int)
    · have hne := hbad fun h => by have := hokI.1 h; omega
      rw [if_neg hne]
      simp (disch := first | assumption | omega | (simp only [lenS]; first | done | omega)) [seven, hlt, wo, ix, gx, wz, c1]
    · by_cases c2 : (om : Int) < (z : Int)
      · have hne := hbad fun h => by have := hokI.1 h; omega
        rw [if_neg hne]
        simp (disch := first | assumption | omega | (simp only [lenS]; first | done | omega)) [seven, hlt, wo, ix, gx, wz, c1, c2]
      · simp (disch := first | assumption | omega | (simp only [lenS]; first | done | omega)) [seven, hlt, wo, ix, gx, wz, c1, c2, -List.reduceReplicate]
        refine w_headsP (z - a) (fun j => ⟨[(14, .i .i64 i), (13, .i .i64 K), (11, .i .i64 ((a + j : Nat) : Int)), (10, .rs 34 0 256 1), (9, .i .i64 z), (7, .i .i64 a), (6, .rs 6 0 i 1), (2, .rf 2 0), (1, x)], [(34, bools (rowB Y a (a + j))), (6, hins (hinR Y om i)), (2, seven K b c d e f g om st)]⟩) (fun j => ∀ k, a < k → k < a + j → ni Y (k - 1) < ni Y k) (by simp (disch := first | assumption | omega | (simp only [lenS]; first | done | omega)) [rowB_zero, seven, -List.reduceReplicate]) (fun k h h2 => by omega) ?_ ?_
        · intro j hj hp2
          obtain ⟨k, hk⟩ : ∃ k, k = a + j := ⟨_, rfl⟩
          rw [show a + (j + 1) = k + 1 by omega, ← hk]
          rw [← hk] at hp2
          have hkz : (k : Int) < (z : Int) := by omega
          have wk : IntKind.i64.wrap ((k : Int) + 1) = (k : Int) + 1 := i64_in _ (by omega)
          have ixk := ixSV_isL hx (k' := .i64) (j := (k : Int)) (by omega) (by omega)
          rw [Int.toNat_natCast] at ixk
          have gk := nums_get (k := .u8) (L := Y) (j := k) (by omega)
          obtain ⟨y0, y1⟩ := bY k
          have rs := rowB_set (L := Y) (a := a) (e := k) (by omega) y0
          have r0 := rowB_len Y a k
          have r1 := rowB_len Y a (k + 1)
          have tl : (ni Y k).toNat < 256 := by omega
          have ek : ((k + 1 : Nat) : Int) = (k : Int) + 1 := by omega
          generalize rowB Y a (k + 1) = R1 at *
          generalize rowB Y a k = R0 at *
          generalize hins (hinR Y om i) = Hc at *
          by_cases c3 : (a : Int) < (k : Int)
          · have wk1 : IntKind.i64.wrap ((k : Int) - 1) = ((k - 1 : Nat) : Int) := by rw [show (k : Int) - 1 = ((k - 1 : Nat) : Int) by omega]; exact i64_in _ (by omega)
            have ixp := ixSV_isL hx (k' := .i64) (j := ((k - 1 : Nat) : Int)) (by omega) (by omega)
            rw [Int.toNat_natCast] at ixp
            have gp := nums_get (k := .u8) (L := Y) (j := k - 1) (by omega)
            by_cases c4 : ni Y k ≤ ni Y (k - 1)
            · have hne := hbad fun h => by have := (hokI.1 h).2.2 k (by omega) (by omega); omega
              rw [if_neg hne]
              generalize ni Y k = y at *
              generalize ni Y (k - 1) = y' at *
              generalize ((k - 1 : Nat) : Int) = P1 at *
              generalize k - 1 = P2 at *
              simp (disch := first | assumption | omega | (simp only [lenS]; first | done | omega)) [seven, hkz, c3, wk1, ixk, gk, ixp, gp, c4]
            · have hp3 : ∀ m, a < m → m < k + 1 → ni Y (m - 1) < ni Y m := fun m h1 h2 => by
                by_cases e : m = k
                · subst e; omega
                · exact hp2 m h1 (by omega)
              refine W.mono (Q := fun e S => _) ?_ (fun e S h => h)
              generalize hP3 : (∀ m, a < m → m < k + 1 → ni Y (m - 1) < ni Y m) = PP at *
              generalize ni Y k = y at *
              generalize ni Y (k - 1) = y' at *
              generalize ((k - 1 : Nat) : Int) = P1 at *
              generalize k - 1 = P2 at *
              simp (disch := first | assumption | omega | (simp only [lenS]; first | done | omega)) [seven, hkz, c3, wk1, ixk, gk, ixp, gp, c4, y0, y1, tl, rs, r0, r1, wk, hp3]
          · have hp3 : ∀ m, a < m → m < k + 1 → ni Y (m - 1) < ni Y m := fun m h1 h2 => by omega
            generalize hP3 : (∀ m, a < m → m < k + 1 → ni Y (m - 1) < ni Y m) = PP at *
            generalize ni Y k = y at *
            simp (disch := first | assumption | omega | (simp only [lenS]; first | done | omega)) [seven, hkz, c3, ixk, gk, y0, y1, tl, rs, r0, r1, wk, hp3]
        · intro hp2
          have e2 : a + (z - a) = z := by omega
          rw [e2] at hp2 ⊢
          have hI2 : okI Y om i := hokI.2 ⟨by omega, by omega, hp2⟩
          have hP2 : ∀ j, j < i + 1 → okI Y om j := fun j hj => by
            by_cases e : j = i
            · subst e; exact hI2
            · exact hP j (by omega)
          have r0 := rowB_len Y a z
          have hsn : hins (hinR Y om i) ++ [.sl (bools (rowB Y a z)) 256] = hins (hinR Y om (i + 1)) := by rw [hrn, ← hins_snoc, r0]
          have hHl : (hins (hinR Y om i)).length = i := by rw [hins_length, hrl]
          have hb1 : ((i : Int) + 1) * 24 ≤ 140737488355328 := by omega
          generalize hins (hinR Y om (i + 1)) = H1 at *
          generalize hins (hinR Y om i) = H0 at *
          generalize rowB Y a z = R0 at *
          have tk : (bools R0).take 256 = bools R0 := List.take_of_length_le (by rw [bools_length, r0]; exact Nat.le_refl _)
          simp (disch := first | assumption | omega | (simp only [lenS]; first | done | omega)) [seven, hsn, hHl, hb1, w1, r0, tk, hP2]
          try exact hP2
  · intro hP
    obtain ⟨a, ha, ha2⟩ := atH_ok hP fun k => (bY k).1
    have hsl : slcV 1 x (some (.i .i64 (a : Int))) (some (.i .i64 (om : Int))) none = some (.sl (nums .u8 ((Y.drop a).take (om - a))) (om - a)) := by
      rcases hx with rfl | ⟨_, h⟩
      · rw [slcV_sl (l := a) (h := om) (by simp [idxO, idx]) (by simp [idxO, idx]) ha2 (by omega), Nat.mul_one, Nat.mul_one, nums_drop, nums_take]
      · exfalso; rw [h] at hl; simp only [List.length_nil] at hl; omega
    have hQl : ((Y.drop a).take (om - a)).length = om - a := by rw [List.length_take, List.length_drop]; omega
    obtain ⟨t, hc, ht⟩ := cFB (x := .sl (nums .u8 ((Y.drop a).take (om - a))) (om - a)) (xs := nums .u8 ((Y.drop a).take (om - a))) (.inl (by rw [nums_length, hQl])) (by rw [nums_length, hQl]; omega) (f := 75) (p := fun k => !decide (ni ((Y.drop a).take (om - a)) k = 0)) (fun k hk => by
      rw [nums_length] at hk
      exact ⟨_, nums_get hk, rfl, bNot0 _⟩)
    rw [nums_length, hQl] at ht
    have hok : (¬ t = true) ↔ okR Y om K := by rw [ht]; exact okR_iff hP ha ha2 (by omega)
    have hHl : (hins (hinR Y om K)).length = K := by rw [hins_length, hinR_len]
    rw [ha]
    generalize nums .u8 ((Y.drop a).take (om - a)) = Q at *
    generalize hins (hinR Y om K) = Hc at *
    clear ht
    cases t with
    | true =>
      have hne : ¬ okR Y om K := fun h => hok.2 h rfl
      rw [if_neg hne]
      simp (disch := first | assumption | omega | (simp only [lenS]; first | done | omega)) [seven, hsl, hc]
    | false =>
      have hyes : okR Y om K := hok.1 (by simp)
      rw [if_pos hyes]
      simp (disch := first | assumption | omega | (simp only [lenS]; first | done | omega)) [seven, hsl, hc, hHl]
end Zab.YtbmhaamjajoggaaDoorB
