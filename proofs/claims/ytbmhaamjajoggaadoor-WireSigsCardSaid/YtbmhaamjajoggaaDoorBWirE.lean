/- Signatures as bytes: the program's function. -/
import Derived.Test.YtbmhaamjajoggaaDoorZabY
import Derived.Test.YtbmhaamjajoggaaDoorBWirC
import Derived.Test.YtbmhaamjajoggaaDoorBWirD
import Derived.Test.YtbmhaamjajoggaaDoorBSee
namespace Zab.YtbmhaamjajoggaaDoorB
open Go
open Go.IntWalk (i64_in)
set_option maxRecDepth 100000
set_option linter.unusedSimpArgs false
set_option linter.unusedVariables false
attribute [-simp] getElem?_pos

theorem sameY {x y : AV} {L : List Int} (hx : IsL .u8 x L) (hy : IsL .u8 y L) (hs : L.length ≤ 1000000) : FF tab 14 [x, y] = some ⟨.b true, []⟩ := by
  refine call_by (A := A14) rfl rfl ?_
  have fx := hx.flat
  have fy := hy.flat
  have lx := lenV_isL hx
  have ly := lenV_isL hy
  simp (disch := first | assumption | omega | (simp only [lenS]; first | done | omega)) [A14, lx, ly]
  refine w_heads L.length (fun k => ⟨[(5, .i .i64 k), (1, y), (0, x)], []⟩) (by simp (disch := first | assumption | omega | (simp only [lenS]; first | done | omega)) []) ?_ ?_
  · intro k hk
    have w1 : IntKind.i64.wrap ((k : Int) + 1) = (k : Int) + 1 := i64_in _ (by omega)
    have hkn : (k : Int).toNat = k := Int.toNat_natCast _
    have hix := ixSV_isL hx (k' := .i64) (j := (k : Int)) (by omega) (by omega)
    have hiy := ixSV_isL hy (k' := .i64) (j := (k : Int)) (by omega) (by omega)
    rw [hkn] at hix hiy
    have hgx := nums_get (k := .u8) hk
    have hlt : (k : Int) < (L.length : Int) := by omega
    simp (disch := first | assumption | omega | (simp only [lenS]; first | done | omega)) [lx, hlt, hix, hiy, hgx, w1]
  · simp (disch := first | assumption | omega | (simp only [lenS]; first | done | omega)) [lx]

theorem keepE_i (k : IntKind) (n : Int) : keepE (some (.i k n)) = some (.i k n) := rfl
/-! ### The sets -/
def wset (n : Nat) : List AV := match n with | 0 => s0 | 1 => s1 | _ => s2
/-- How many bytes a signature has. -/
def sigN (n : Nat) : Nat := match n with | 0 => 2420 | 1 => 3309 | _ => 4627
/-- A set's numbers. -/
structure Set9 (n K L om c : Nat) (e t b g g2 : Int) (d : Nat) : Prop where
  hn : n < 3
  eq : wset n = seven K L e t b g g2 om (4 * (c : Int))
  K1 : 1 ≤ K
  K8 : K ≤ 8
  L1 : 1 ≤ L
  L8 : L ≤ 8
  om1 : 1 ≤ om
  om80 : om ≤ 80
  c1 : 1 ≤ c
  c64 : c ≤ 64
  gd : g = 131072 ∧ d = 18 ∨ g = 524288 ∧ d = 20
  g2d : g2 = 95232 ∨ g2 = 261888
  sz : sigN n = c + (L * (32 * d) + (om + K))
theorem set9 {n : Nat} (h : n < 3) : ∃ (K L om c : Nat) (e t b g g2 : Int) (d : Nat), Set9 n K L om c e t b g g2 d := by
  have : n = 0 ∨ n = 1 ∨ n = 2 := by omega
  rcases this with rfl | rfl | rfl
  · exact ⟨4, 4, 80, 32, 2, 39, 78, 131072, 95232, 18, by omega, rfl, by omega, by omega, by omega, by omega, by omega, by omega, by omega, by omega, by omega, by omega, rfl⟩
  · exact ⟨6, 5, 55, 48, 4, 49, 196, 524288, 261888, 20, by omega, rfl, by omega, by omega, by omega, by omega, by omega, by omega, by omega, by omega, by omega, by omega, rfl⟩
  · exact ⟨8, 7, 75, 64, 2, 60, 120, 524288, 261888, 20, by omega, rfl, by omega, by omega, by omega, by omega, by omega, by omega, by omega, by omega, by omega, by omega, rfl⟩
theorem wOfI {n : Nat} (h : n < 3) : FF tab 38 [.i .i64 n] = some ⟨.tp [.ag (wset n), .nl], []⟩ := by
  have : n = 0 ∨ n = 1 ∨ n = 2 := by omega
  rcases this with rfl | rfl | rfl
  · exact FF_of (n := 60) (by kernel_rfl)
  · exact FF_of (n := 60) (by kernel_rfl)
  · exact FF_of (n := 60) (by kernel_rfl)
theorem sS_part {n : Nat} (h : n < 3) : List.take 9 (List.drop (n * 9) sS) = wset n := by
  have : n = 0 ∨ n = 1 ∨ n = 2 := by omega
  rcases this with rfl | rfl | rfl <;> rfl
theorem sS_len : sS.length = 27 := rfl
theorem two_le {w j : Nat} (h : j < w) (hw : w ≤ 20) : (2 : Int) ^ j ≤ ((2 ^ (w - 1) : Nat) : Int) := by
  have : 2 ^ j ≤ 2 ^ (w - 1) := Nat.pow_le_pow_right (by omega) (by omega)
  have e : (2 : Int) ^ j = ((2 ^ j : Nat) : Int) := by simp
  rw [e]; omega
theorem bndG {g : Int} {d : Nat} (h : g = 131072 ∧ d = 18 ∨ g = 524288 ∧ d = 20) : Bnd (g - 1) g d := by
  rcases h with ⟨rfl, rfl⟩ | ⟨rfl, rfl⟩
  · exact ⟨by omega, by omega, by omega, by omega, by omega, by omega, by omega, by decide, pWidthN (n := 262143) (by omega), dWidth (n := 262143) (w := 18) (by omega) (by decide) (fun j hj => Int.le_trans (two_le hj (by omega)) (by decide)) (by omega)⟩
  · exact ⟨by omega, by omega, by omega, by omega, by omega, by omega, by omega, by decide, pWidthN (n := 1048575) (by omega), dWidth (n := 1048575) (w := 20) (by omega) (by decide) (fun j hj => Int.le_trans (two_le hj (by omega)) (by decide)) (by omega)⟩

/-! ### What is amiss -/
def sgFit (K L c : Nat) (C : List Int) (Zs : List (List Int)) (Hs : List (List Bool)) : Prop := C.length = c ∧ Fit L Zs ∧ Fit K Hs
open Classical in
noncomputable def sgCode (K L om c : Nat) (g : Int) (C : List Int) (Zs : List (List Int)) (Hs : List (List Bool)) : Nat :=
  if sgFit K L c C Zs Hs then (if ∀ Z ∈ Zs, Rng (g - 1) g Z then (if (plcA Hs).length ≤ om then 0 else 103) else 101) else 102
def sgOut (K om : Nat) (g : Int) (d : Nat) (C : List Int) (Zs : List (List Int)) (Hs : List (List Bool)) : List Int := C ++ sgA g d Zs ++ outH om K (plcA Hs) (endA Hs K)
noncomputable def sgVal (K L om c : Nat) (g : Int) (d : Nat) (C : List Int) (Zs : List (List Int)) (Hs : List (List Bool)) : AV :=
  if sgCode K L om c g C Zs Hs = 0 then .os (nums .u8 (sgOut K om g d C Zs Hs)) (sgOut K om g d C Zs Hs).length 1 else .z
theorem sgCode_is (K L om c : Nat) (g : Int) (C : List Int) (Zs : List (List Int)) (Hs : List (List Bool)) : Code (sgCode K L om c g C Zs Hs) := by
  unfold sgCode Code; split
  · split
    · split <;> simp
    · simp
  · simp
theorem e0 : errV 0 = .nl := rfl
theorem e101 : errV 101 = .er 2 := rfl
theorem e102 : errV 102 = .er 0 := rfl
theorem e103 : errV 103 = .er 3 := rfl
theorem e104 : errV 104 = .er 1 := rfl
theorem quo4 (c : Nat) (h : c ≤ 64) : ((4 * (c : Int)).tdiv 4) = (c : Int) ∧ IntKind.i64.wrap (c : Int) = (c : Int) := ⟨by rw [Int.tdiv_eq_ediv_of_nonneg (by omega)]; omega, i64_in _ (by omega)⟩
set_option maxHeartbeats 16000000 in
theorem pSigBytes {n K L om c : Nat} {e t b g g2 : Int} {d : Nat} (S : Set9 n K L om c e t b g g2 d) {xC : AV} {C : List Int} (hC : IsL .u8 xC C) (bC : C.length ≤ 100) {xZ : AV} {zs : List AV} {Zs : List (List Int)} (hZ : IsW (IsL .i64) xZ zs Zs) (bZ : Zs.length ≤ 10)
    {xH : AV} {hs : List AV} {Hs : List (List Bool)} (hH : IsW IsB xH hs Hs) (bH : Hs.length ≤ 10) :
    FF tab 11 [.i .i64 n, .ag [xC, xZ, xH]] = some ⟨.tp [sgVal K L om c g d C Zs Hs, errV (sgCode K L om c g C Zs Hs)], []⟩ := by
  refine call_by (A := A11) rfl rfl ?_
  obtain ⟨hn, eq, K1, K8, L1, L8, om1, om80, c1, c64, gd, g2d, _⟩ := S
  have fC := hC.flat
  have fZ := hZ.flat
  have fH := hH.flat
  have lC := lenV_isL hC
  have lH := hH.lenV
  have ho := wOfI hn
  rw [eq] at ho
  obtain ⟨q1, q2⟩ := quo4 c c64
  have hLo := long (n := L) (by omega) hZ (by omega)
  have hF : ∃ tH, FF tab 40 [xH, .fn 41 []] = some ⟨.b tH, []⟩ ∧ ((¬ tH = true) ↔ ∀ B ∈ Hs, B.length = 256) := by
    obtain ⟨tH, hc, ht⟩ := cFH hH.ex (by rw [hH.len]; omega) (f := 41) (p := fun k => !decide (((Hs.getD k []).length : Int) = 256)) (fun k hk => by
      rw [hH.len] at hk
      obtain ⟨u, h1, h2⟩ := hH.get hk
      have := len1H u Hs[k].length h2.flat (lenV_isB h2)
      rw [List.getD_eq_getElem?_getD, List.getElem?_eq_getElem hk]
      exact ⟨u, h1, h2.flat, this⟩)
    refine ⟨tH, hc, ?_⟩
    rw [ht, ← not_all, hH.len]
    refine not_congr ⟨?_, ?_⟩
    · rintro ⟨k, hk, h⟩
      refine ⟨k, hk, ?_⟩
      rw [List.getD_eq_getElem?_getD, List.getElem?_eq_getElem hk] at h
      simp only [Option.getD_some, Bool.not_eq_true', decide_eq_false_iff_not] at h
      omega
    · rintro ⟨k, hk, h⟩
      refine ⟨k, hk, ?_⟩
      rw [List.getD_eq_getElem?_getD, List.getElem?_eq_getElem hk]
      simp only [Option.getD_some, Bool.not_eq_true', decide_eq_false_iff_not]
      omega
  obtain ⟨tH, hF, hF2⟩ := hF
  unfold seven at ho
  by_cases a1 : (C.length : Int) = (c : Int)
  · by_cases a2 : Fit L Zs
    · by_cases a3 : (Hs.length : Int) = (K : Int)
      · cases tH with
        | true =>
          have hc : sgCode K L om c g C Zs Hs = 102 := if_neg fun h => hF2.2 h.2.2.2 rfl
          rw [sgVal, hc, e102, if_neg (by omega)]
          simp (disch := first | assumption | omega | (simp only [lenS]; first | done | omega)) [A11, ho, lC, lH, q1, q2, hLo, hF, a1, a2, a3]
        | false =>
          have hB := hF2.1 (by simp)
          have hfit : sgFit K L c C Zs Hs := ⟨by omega, a2, by omega, hB⟩
          have hxC : xC = .sl (nums .u8 C) C.length := by rcases hC with h | ⟨_, h⟩; exact h; rw [h] at a1; simp at a1; omega
          subst hxC
          have hCl := pClone (L := C) (by omega) (by omega)
          have hSg := pSignedV (bndG gd) hZ a2.2 (by omega) (by rw [a2.1]; omega) C (by omega)
          have wg : IntKind.i64.wrap (g - 1) = g - 1 := i64_in _ (by omega)
          have hHi := pHints (K := K) (om := om) (b := L) (c := e) (d := t) (e := b) (f := g) (g := g2) (st := 4 * (c : Int)) (by omega) (by omega) hH hB (by omega)
          unfold seven at hHi
          by_cases a4 : ∀ Z ∈ Zs, Rng (g - 1) g Z
          · rw [if_pos a4] at hSg
            by_cases a5 : (plcA Hs).length ≤ om
            · have hc : sgCode K L om c g C Zs Hs = 0 := by unfold sgCode; rw [if_pos hfit, if_pos a4, if_pos a5]
              rw [sgVal, hc, e0, if_pos rfl]
              rw [if_pos a5] at hHi
              have ol := outH_len (om := om) (K := K) (E := endA Hs K) a5 (by rw [endA_len]; omega)
              have al := sgA_len g d a2.2
              have al2 : Zs.length * (d * 32) ≤ 8 * (20 * 32) := Nat.mul_le_mul (by rw [a2.1]; omega) (by omega)
              rw [← ol] at hHi
              unfold sgOut
              have hTl : (C ++ sgA g d Zs).length ≤ 10000 := by rw [List.length_append]; omega
              generalize C ++ sgA g d Zs = T at *
              have hOl : (outH om K (plcA Hs) (endA Hs K)).length ≤ 100 := by omega
              generalize outH om K (plcA Hs) (endA Hs K) = O at *
              have hb1 : ((T.length : Int) + (O.length : Int)) * 1 ≤ 140737488355328 := by omega
              simp (disch := first | assumption | omega | (simp only [lenS]; first | done | omega)) [A11, ho, lC, lH, q1, q2, hLo, hF, a1, a2, a3, hCl, hSg, afterK_ch, keepE_i, keepE_fl, wg, hHi, hb1]
            · have hc : sgCode K L om c g C Zs Hs = 103 := by unfold sgCode; rw [if_pos hfit, if_pos a4, if_neg a5]
              rw [sgVal, hc, e103, if_neg (by omega)]
              rw [if_neg a5] at hHi
              generalize C ++ sgA g d Zs = T at *
              simp (disch := first | assumption | omega | (simp only [lenS]; first | done | omega)) [A11, ho, lC, lH, q1, q2, hLo, hF, a1, a2, a3, hCl, hSg, afterK_ch, keepE_i, keepE_fl, wg, hHi]
          · have hc : sgCode K L om c g C Zs Hs = 101 := by unfold sgCode; rw [if_pos hfit, if_neg a4]
            rw [sgVal, hc, e101, if_neg (by omega)]
            rw [if_neg a4] at hSg
            simp (disch := first | assumption | omega | (simp only [lenS]; first | done | omega)) [A11, ho, lC, lH, q1, q2, hLo, hF, a1, a2, a3, hCl, hSg, afterK_ch, keepE_i, keepE_fl, wg]
      · have hc : sgCode K L om c g C Zs Hs = 102 := if_neg fun h => a3 (by rw [h.2.2.1])
        rw [sgVal, hc, e102, if_neg (by omega)]
        simp (disch := first | assumption | omega | (simp only [lenS]; first | done | omega)) [A11, ho, lC, lH, q1, q2, hLo, hF, a1, a2, a3]
    · have hc : sgCode K L om c g C Zs Hs = 102 := if_neg fun h => a2 h.2.1
      rw [sgVal, hc, e102, if_neg (by omega)]
      simp (disch := first | assumption | omega | (simp only [lenS]; first | done | omega)) [A11, ho, lC, lH, q1, q2, hLo, hF, a1, a2]
  · have hc : sgCode K L om c g C Zs Hs = 102 := if_neg fun h => a1 (by rw [h.1])
    rw [sgVal, hc, e102, if_neg (by omega)]
    simp (disch := first | assumption | omega | (simp only [lenS]; first | done | omega)) [A11, ho, lC, lH, q1, q2, hLo, hF, a1]
end Zab.YtbmhaamjajoggaaDoorB
