/- Signatures as bytes: the document's function. -/
import Derived.Test.YtbmhaamjajoggaaDoorZabY
import Derived.Test.YtbmhaamjajoggaaDoorBWirE
namespace Zab.YtbmhaamjajoggaaDoorB
open Go
open Go.IntWalk (i64_in)
set_option maxRecDepth 100000
set_option linter.unusedSimpArgs false
set_option linter.unusedVariables false
attribute [-simp] getElem?_pos

/-- How many there are behind each, as a byte. -/
def endW (Bs : List (List Bool)) (k : Nat) : List Int := (List.range k).map fun i => (((plcA (Bs.take (i + 1))).length % 256 : Nat) : Int)
theorem endW_len (Bs : List (List Bool)) (k : Nat) : (endW Bs k).length = k := by simp [endW]
theorem endW_next (Bs : List (List Bool)) (k : Nat) : endW Bs (k + 1) = endW Bs k ++ [(((plcA (Bs.take (k + 1))).length % 256 : Nat) : Int)] := by simp [endW, List.range_succ]
theorem endW_is {Bs : List (List Bool)} (h : (plcA Bs).length < 256) (k : Nat) : endW Bs k = endA Bs k := by
  unfold endW endA
  apply List.map_congr_left
  intro i _
  rw [Nat.mod_eq_of_lt (Nat.lt_of_le_of_lt (plcA_mono Bs (i + 1)) h)]
theorem plcA_le : ∀ (Bs : List (List Bool)), (plcA Bs).length ≤ Bs.length * 256
  | [] => by simp [plcA]
  | B :: r => by
    have ih := plcA_le r
    have := plcTo_le B 256
    simp only [plcA, List.map_cons, List.flatten_cons, List.length_append, List.length_cons] at ih ⊢
    omega
theorem zs_snoc (n : Nat) : zs (n + 1) = zs n ++ [0] := by simp [Zab.zs, List.replicate_succ']
set_option maxHeartbeats 16000000 in
theorem dSigBytes {n K L om c : Nat} {e t b g g2 : Int} {d : Nat} (S : Set9 n K L om c e t b g g2 d) {xC : AV} {C : List Int} (hC : IsL .u8 xC C) (bC : C.length ≤ 100) {xZ : AV} {zs' : List AV} {Zs : List (List Int)} (hZ : IsW (IsL .i64) xZ zs' Zs) (bZ : Zs.length ≤ 10)
    {xH : AV} {hs : List AV} {Hs : List (List Bool)} (hH : IsW IsB xH hs Hs) (bH : Hs.length ≤ 10) :
    FF tab 17 [.i .i64 n, .ag [xC, xZ, xH]] = some ⟨.tp [sgVal K L om c g d C Zs Hs, .i .i64 (sgCode K L om c g C Zs Hs)], []⟩ := by
  refine call_by (A := A17) rfl rfl ?_
  obtain ⟨hn, eq, K1, K8, L1, L8, om1, om80, c1, c64, gd, g2d, _⟩ := S
  have fC := hC.flat
  have fZ := hZ.flat
  have fH := hH.flat
  have lC := lenV_isL hC
  have lH := hH.lenV
  have n0 : ¬ (n : Int) < 0 := by omega
  have n2 : ¬ 2 < (n : Int) := by omega
  have n3 : (n : Int) < 3 := by omega
  have nt : (n : Int).toNat = n := Int.toNat_natCast _
  have hp := sS_part hn
  rw [eq] at hp
  unfold seven at hp
  have h27 : ¬ 27 ≤ n * 9 := by omega
  have ls := sS_len
  obtain ⟨q1, q2⟩ := quo4 c c64
  have hLo := vectors (n := L) (by omega) hZ
  by_cases a1 : (C.length : Int) = (c : Int)
  · by_cases a2 : Fit L Zs
    · by_cases a3 : (Hs.length : Int) = (K : Int)
      · have a3' : Hs.length = K := by omega
        simp (disch := first | assumption | omega | (simp only [lenS]; first | done | omega)) [A17, DsaSets, lC, lH, n0, n2, n3, nt, hp, h27, ls, q1, q2, hLo, a1, a2, a3]
        refine w_headsP K (fun i => ⟨[(10, .i .i64 i), (9, .i .i64 (plcA (Hs.take i)).length), (8, .rs 8 0 (endW Hs i).length 1), (7, .rs 7 0 (plcA (Hs.take i)).length 1), (6, .rf 6 0), (3, .rf 3 0)], [(8, nums .u8 (endW Hs i)), (7, nums .u8 (plcA (Hs.take i))), (6, seven K L e t b g g2 om (4 * (c : Int))), (3, [xC, xZ, xH])]⟩) (fun i => ∀ j (h : j < Hs.length), j < i → Hs[j].length = 256) (by simp (disch := first | assumption | omega | (simp only [lenS]; first | done | omega)) [plcA, endW, seven, nums_nil]) (fun j _ h => by omega) ?_ ?_
        · intro i hi hP
          have hik : i < Hs.length := by omega
          have w1 : IntKind.i64.wrap ((i : Int) + 1) = (i : Int) + 1 := i64_in _ (by omega)
          have hix := hH.ix hik
          obtain ⟨u, hu, hU⟩ := hH.get hik
          have fu := hU.flat
          have lu := lenV_isB hU
          have hlt : (i : Int) < (K : Int) := by omega
          by_cases hB : ((Hs[i].length : Nat) : Int) = 256
          · have hP2 : ∀ j (h : j < Hs.length), j < i + 1 → Hs[j].length = 256 := fun j h hj => by
              by_cases ej : j = i
              · subst ej; omega
              · exact hP j h (by omega)
            have hn' := plcA_next hik
            have hel := endW_len Hs i
            have hen := endW_next Hs i
            have hpl := plcA_le (Hs.take i)
            rw [List.length_take] at hpl
            generalize endW Hs i = E0 at *
            simp (disch := first | assumption | omega | (simp only [lenS]; first | done | omega)) [seven, hlt, hix, hu, lu, hB]
            refine w_heads 256 (fun k => ⟨[(11, .i .i64 k), (10, .i .i64 i), (9, .i .i64 (plcA (Hs.take i) ++ plcTo Hs[i] k).length), (8, .rs 8 0 E0.length 1), (7, .rs 7 0 (plcA (Hs.take i) ++ plcTo Hs[i] k).length 1), (6, .rf 6 0), (3, .rf 3 0)], [(8, nums .u8 E0), (7, nums .u8 (plcA (Hs.take i) ++ plcTo Hs[i] k)), (6, seven K L e t b g g2 om (4 * (c : Int))), (3, [xC, xZ, xH])]⟩) (by simp (disch := first | assumption | omega | (simp only [lenS]; first | done | omega)) [plcTo, seven]) ?_ ?_
            · intro k hk
              have wk : IntKind.i64.wrap ((k : Int) + 1) = (k : Int) + 1 := i64_in _ (by omega)
              have wu : IntKind.u8.wrap (k : Int) = (k : Int) := u8_nat hk
              have tn : (k : Int).toNat = k := Int.toNat_natCast _
              have ib := ixSV_isB hU (k' := .i64) (j := (k : Int)) (by omega) (by omega)
              rw [tn] at ib
              have gb := bools_get (L := Hs[i]) (j := k) (by omega)
              have hlk : (k : Int) < 256 := by omega
              have hk2 := plcTo_le Hs[i] k
              have hTl : (plcA (Hs.take i) ++ plcTo Hs[i] k).length ≤ 5000 := by rw [List.length_append]; omega
              cases hb : nb Hs[i] k with
              | false =>
                rw [hb] at gb
                rw [plcTo_f hb]
                generalize plcA (Hs.take i) ++ plcTo Hs[i] k = T at *
                simp (disch := first | assumption | omega | (simp only [lenS]; first | done | omega)) [seven, hlk, hix, hu, ib, gb, wk]
              | true =>
                rw [hb] at gb
                rw [plcTo_t hb, ← List.append_assoc]
                generalize plcA (Hs.take i) ++ plcTo Hs[i] k = T at *
                have wt : IntKind.i64.wrap ((T.length : Int) + 1) = (T.length : Int) + 1 := i64_in _ (by omega)
                have hb1 : ((T.length : Int) + 1) * 1 ≤ 140737488355328 := by omega
                simp (disch := first | assumption | omega | (simp only [lenS]; first | done | omega)) [seven, hlk, hix, hu, ib, gb, wk, wu, wt, hb1]
            · rw [← hn']
              have hpl2 := plcA_le (Hs.take (i + 1))
              rw [List.length_take] at hpl2
              rw [hen]
              generalize plcA (Hs.take (i + 1)) = T at *
              have wu : IntKind.u8.wrap (T.length : Int) = ((T.length % 256 : Nat) : Int) := by show (T.length : Int) % 256 = _; omega
              have hb1 : ((E0.length : Int) + 1) * 1 ≤ 140737488355328 := by omega
              generalize ((T.length % 256 : Nat) : Int) = y at *
              simp (disch := first | assumption | omega | (simp only [lenS]; first | done | omega)) [seven, w1, wu, hb1, hP2]
              try exact hP2
          · have hc : sgCode K L om c g C Zs Hs = 102 := if_neg fun h => hB (by rw [h.2.2.2 _ (List.getElem_mem hik)]; rfl)
            rw [sgVal, hc, if_neg (by omega)]
            generalize endW Hs i = E0 at *
            generalize plcA (Hs.take i) = T at *
            simp (disch := first | assumption | omega | (simp only [lenS]; first | done | omega)) [seven, hlt, hix, hu, lu, hB]
        · intro hP
          have hB : ∀ B ∈ Hs, B.length = 256 := fun B hB => by
            obtain ⟨j, hj, rfl⟩ := List.mem_iff_getElem.1 hB
            exact hP j hj (by omega)
          have eT : Hs.take K = Hs := by rw [← a3']; exact List.take_length
          rw [eT]
          have hfit : sgFit K L c C Zs Hs := ⟨by omega, a2, a3', hB⟩
          have hBy := dBytes hC (by omega)
          have hSg := dSignedV (bndG gd) hZ a2.2 (by omega) (by rw [a2.1]; omega) C (by omega)
          have wg : IntKind.i64.wrap (g - 1) = g - 1 := i64_in _ (by omega)
          have hEl := endW_len Hs K
          have hpl := plcA_le Hs
          have al := sgA_len g d a2.2
          have al2 : Zs.length * (d * 32) ≤ 8 * (20 * 32) := Nat.mul_le_mul (by rw [a2.1]; omega) (by omega)
          by_cases a4 : ∀ Z ∈ Zs, Rng (g - 1) g Z
          · rw [if_pos a4] at hSg
            by_cases a5 : (om : Int) < ((plcA Hs).length : Int)
            · have hc : sgCode K L om c g C Zs Hs = 103 := by unfold sgCode; rw [if_pos hfit, if_pos a4, if_neg (by omega)]
              rw [sgVal, hc, if_neg (by omega)]
              generalize endW Hs K = E0 at *
              generalize plcA Hs = T at *
              generalize C ++ sgA g d Zs = O at *
              simp (disch := first | assumption | omega | (simp only [lenS]; first | done | omega)) [seven, hBy, hSg, wg, a5, afterK_ch, keepE_i, keepE_fl]
            · have hc : sgCode K L om c g C Zs Hs = 0 := by unfold sgCode; rw [if_pos hfit, if_pos a4, if_pos (by omega)]
              rw [sgVal, hc, if_pos rfl]
              unfold sgOut outH
              rw [endW_is (by omega)] at hEl ⊢
              have hE0 : Zab.zs (K - (endA Hs K).length) = [] := by rw [hEl, Nat.sub_self]; rfl
              rw [hE0, List.append_nil]
              have hOl : (C ++ sgA g d Zs).length ≤ 10000 := by rw [List.length_append]; omega
              generalize endA Hs K = E0 at *
              generalize plcA Hs = T at *
              generalize C ++ sgA g d Zs = O at *
              simp (disch := first | assumption | omega | (simp only [lenS]; first | done | omega)) [seven, hBy, hSg, wg, a5, afterK_ch, keepE_i, keepE_fl]
              refine w_heads (om - T.length) (fun j => ⟨[(12, .rs 1095 0 O.length 1), (8, .rs 8 0 E0.length 1), (7, .rs 7 0 (T ++ Zab.zs j).length 1), (6, .el (seven K L e t b g g2 om (4 * (c : Int))) 0)], [(1095, nums .u8 O), (8, nums .u8 E0), (7, nums .u8 (T ++ Zab.zs j))]⟩) (by simp (disch := first | assumption | omega | (simp only [lenS]; first | done | omega)) [seven, Zab.zs]) ?_ ?_
              · intro j hj
                have hl : (T ++ Zab.zs j).length = T.length + j := by simp [Zab.zs]
                have hlt : ((T ++ Zab.zs j).length : Int) < (om : Int) := by omega
                rw [zs_snoc, ← List.append_assoc]
                generalize T ++ Zab.zs j = U at *
                have hb1 : ((U.length : Int) + 1) * 1 ≤ 140737488355328 := by omega
                simp (disch := first | assumption | omega | (simp only [lenS]; first | done | omega)) [seven, hlt, hb1, keepE_i]
              · have hl : (T ++ Zab.zs (om - T.length)).length = om := by simp [Zab.zs]; omega
                have hnl : ¬ ((T ++ Zab.zs (om - T.length)).length : Int) < (om : Int) := by omega
                have zl : (Zab.zs (om - T.length)).length = om - T.length := by simp [Zab.zs]
                rw [← List.append_assoc T]
                generalize T ++ Zab.zs (om - T.length) = U at *
                have hb1 : ((O.length : Int) + (U.length : Int)) * 1 ≤ 140737488355328 := by omega
                have hb2 : ((O.length : Int) + (U.length : Int) + (E0.length : Int)) * 1 ≤ 140737488355328 := by omega
                simp (disch := first | assumption | omega | (simp only [lenS]; first | done | omega)) [seven, hnl, hb1, hb2, keepE_i]
                omega
          · have hc : sgCode K L om c g C Zs Hs = 101 := by unfold sgCode; rw [if_pos hfit, if_neg a4]
            rw [sgVal, hc, if_neg (by omega)]
            rw [if_neg a4] at hSg
            generalize endW Hs K = E0 at *
            generalize plcA Hs = T at *
            simp (disch := first | assumption | omega | (simp only [lenS]; first | done | omega)) [seven, hBy, hSg, wg, afterK_ch, keepE_i, keepE_fl]
      · have hc : sgCode K L om c g C Zs Hs = 102 := if_neg fun h => a3 (by rw [h.2.2.1])
        rw [sgVal, hc, if_neg (by omega)]
        simp (disch := first | assumption | omega | (simp only [lenS]; first | done | omega)) [A17, DsaSets, lC, lH, n0, n2, n3, nt, hp, h27, ls, q1, q2, hLo, a1, a2, a3]
    · have hc : sgCode K L om c g C Zs Hs = 102 := if_neg fun h => a2 h.2.1
      rw [sgVal, hc, if_neg (by omega)]
      simp (disch := first | assumption | omega | (simp only [lenS]; first | done | omega)) [A17, DsaSets, lC, lH, n0, n2, n3, nt, hp, h27, ls, q1, q2, hLo, a1, a2]
  · have hc : sgCode K L om c g C Zs Hs = 102 := if_neg fun h => a1 (by rw [h.1])
    rw [sgVal, hc, if_neg (by omega)]
    simp (disch := first | assumption | omega | (simp only [lenS]; first | done | omega)) [A17, DsaSets, lC, lH, n0, n2, n3, nt, hp, h27, ls, q1, q2, hLo, a1]
end Zab.YtbmhaamjajoggaaDoorB
