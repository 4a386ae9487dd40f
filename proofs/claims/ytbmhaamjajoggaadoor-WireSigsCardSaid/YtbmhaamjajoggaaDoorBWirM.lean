/- The law WireSigs. -/
import Derived.Test.YtbmhaamjajoggaaDoorZabY
import Derived.Test.YtbmhaamjajoggaaDoorBWirJ
import Derived.Test.YtbmhaamjajoggaaDoorBWirL
namespace Zab.YtbmhaamjajoggaaDoorB
open Go
open Go.IntWalk (i64_in)
set_option maxRecDepth 100000
set_option linter.unusedSimpArgs false
set_option linter.unusedVariables false
attribute [-simp] getElem?_pos

section
variable {s : Int} (h : s < 0 ∨ 3 ≤ s)
include h
theorem pSigN {a : AV} {b c : AV} (fa : a.flat = true) (fb : b.flat = true) (fc : c.flat = true) : FF tab 11 [.i .i64 s, .ag [a, b, c]] = some ⟨.tp [.z, errV 101], []⟩ := by
  refine call_by (A := A11) rfl rfl ?_
  have ho := wOf s h
  unfold seven at ho
  rw [e101]
  simp (disch := first | assumption | omega | (simp only [lenS]; first | done | omega)) [A11, ho]
theorem dSigN {a : AV} {b c : AV} (fa : a.flat = true) (fb : b.flat = true) (fc : c.flat = true) : FF tab 17 [.i .i64 s, .ag [a, b, c]] = some ⟨.tp [.z, .i .i64 101], []⟩ := by
  refine call_by (A := A17) rfl rfl ?_
  by_cases h0 : s < 0
  · simp (disch := first | assumption | omega | (simp only [lenS]; first | done | omega)) [A17, h0]
  · have h3 : 2 < s := by omega
    simp (disch := first | assumption | omega | (simp only [lenS]; first | done | omega)) [A17, h0, h3]
theorem pReadN {a : AV} (fa : a.flat = true) : FF tab 12 [.i .i64 s, a] = some ⟨.tp [.ag [.z, .z, .z], errV 101], []⟩ := by
  refine call_by (A := A12) rfl rfl ?_
  have ho := wOf s h
  unfold seven at ho
  rw [e101]
  simp (disch := first | assumption | omega | (simp only [lenS]; first | done | omega)) [A12, ho]
theorem dReadN {a : AV} (fa : a.flat = true) : FF tab 19 [.i .i64 s, a] = some ⟨.tp [.ag [.z, .z, .z], .i .i64 101], []⟩ := by
  refine call_by (A := A19) rfl rfl ?_
  by_cases h0 : s < 0
  · simp (disch := first | assumption | omega | (simp only [lenS]; first | done | omega)) [A19, h0]
  · have h3 : 2 < s := by omega
    simp (disch := first | assumption | omega | (simp only [lenS]; first | done | omega)) [A19, h0, h3]
theorem pHighN {a : AV} (fa : a.flat = true) : FF tab 20 [.i .i64 s, a] = some ⟨.tp [.z, errV 101], []⟩ := by
  refine call_by (A := A20) rfl rfl ?_
  have ho := wOf s h
  unfold seven at ho
  rw [e101]
  simp (disch := first | assumption | omega | (simp only [lenS]; first | done | omega)) [A20, ho]
theorem dHighN {a : AV} (fa : a.flat = true) : FF tab 21 [.i .i64 s, a] = some ⟨.tp [.z, .i .i64 101], []⟩ := by
  refine call_by (A := A21) rfl rfl ?_
  by_cases h0 : s < 0
  · simp (disch := first | assumption | omega | (simp only [lenS]; first | done | omega)) [A21, h0]
  · have h3 : 2 < s := by omega
    simp (disch := first | assumption | omega | (simp only [lenS]; first | done | omega)) [A21, h0, h3]
end
theorem sigOf {a : AV} {b c : AV} (fa : a.flat = true) (fb : b.flat = true) (fc : c.flat = true) : FF tab 18 [.ag [a, b, c]] = some ⟨.ag [a, b, c], []⟩ := by
  refine call_by (A := A18) rfl rfl ?_
  simp (disch := first | assumption | omega | (simp only [lenS]; first | done | omega)) [A18]
/-- Bytes that are given back, or none. -/
def Out (v : AV) : Prop := v = .z ∨ ∃ L : List Int, L.length ≤ 1000000 ∧ v = .os (nums .u8 L) L.length 1
theorem sigs (s : Int) {xC : AV} {C : List Int} (hC : IsL .u8 xC C) (bC : C.length ≤ 100) {xZ : AV} {zs : List AV} {Zs : List (List Int)} (hZ : IsW (IsL .i64) xZ zs Zs) (bZ : Zs.length ≤ 10)
    {xH : AV} {hs : List AV} {Hs : List (List Bool)} (hH : IsW IsB xH hs Hs) (bH : Hs.length ≤ 10) :
    ∃ v cd, Code cd ∧ Out v ∧ FF tab 11 [.i .i64 s, .ag [xC, xZ, xH]] = some ⟨.tp [v, errV cd], []⟩ ∧ FF tab 17 [.i .i64 s, .ag [xC, xZ, xH]] = some ⟨.tp [v, .i .i64 cd], []⟩ := by
  by_cases h : s < 0 ∨ 3 ≤ s
  · exact ⟨.z, 101, by simp [Code], .inl rfl, pSigN h hC.flat hZ.flat hH.flat, dSigN h hC.flat hZ.flat hH.flat⟩
  · obtain ⟨n, rfl⟩ : ∃ n : Nat, s = (n : Int) := ⟨s.toNat, by omega⟩
    obtain ⟨K, L, om, c, e, t, b, g, g2, d, S⟩ := set9 (n := n) (by omega)
    refine ⟨_, _, sgCode_is .., ?_, pSigBytes S hC bC hZ bZ hH bH, dSigBytes S hC bC hZ bZ hH bH⟩
    unfold sgVal
    by_cases hc : sgCode K L om c g C Zs Hs = 0
    · rw [if_pos hc]
      refine .inr ⟨_, ?_, rfl⟩
      unfold sgCode at hc
      by_cases f1 : sgFit K L c C Zs Hs
      · rw [if_pos f1] at hc
        by_cases f2 : ∀ Z ∈ Zs, Rng (g - 1) g Z
        · rw [if_pos f2] at hc
          by_cases f3 : (plcA Hs).length ≤ om
          · have ol := outH_len (om := om) (K := K) (E := endA Hs K) f3 (by rw [endA_len]; omega)
            have al := sgA_len g d f1.2.1.2
            have d20 : d ≤ 20 := by rcases S.gd with h | h <;> omega
            have al2 : Zs.length * (d * 32) ≤ 10 * (20 * 32) := Nat.mul_le_mul bZ (by omega)
            have := S.om80
            have := S.K8
            unfold sgOut
            rw [List.length_append, List.length_append, ol]
            omega
          · rw [if_neg f3] at hc; omega
        · rw [if_neg f2] at hc; omega
      · rw [if_neg f1] at hc; omega
    · rw [if_neg hc]; exact .inl rfl
theorem reads (s : Int) {x : AV} {Y : List Int} (hx : IsL .u8 x Y) (hI : ∀ y ∈ Y, inK .u8 y) (hl : Y.length ≤ 5000) :
    ∃ (a b c : AV) (cd : Nat), Code cd ∧ a.flat = true ∧ b.flat = true ∧ c.flat = true ∧ FF tab 12 [.i .i64 s, x] = some ⟨.tp [.ag [a, b, c], errV cd], []⟩ ∧ FF tab 19 [.i .i64 s, x] = some ⟨.tp [.ag [a, b, c], .i .i64 cd], []⟩ ∧
      FF tab 14 [a, a] = some ⟨.b true, []⟩ ∧ FF tab 22 [b, b] = some ⟨.b true, []⟩ ∧ FF tab 15 [c, c] = some ⟨.b true, []⟩ := by
  have ez : FF tab 14 [.z, .z] = some ⟨.b true, []⟩ := sameY (L := []) (.inr ⟨rfl, rfl⟩) (.inr ⟨rfl, rfl⟩) (by simp)
  have ev : FF tab 22 [.z, .z] = some ⟨.b true, []⟩ := sameV (Ls := []) (xs := []) (ys := []) ⟨.inr ⟨rfl, rfl⟩, rfl, fun j h => by simp at h⟩ ⟨.inr ⟨rfl, rfl⟩, rfl, fun j h => by simp at h⟩ (by simp) (by simp)
  have eh : FF tab 15 [.z, .z] = some ⟨.b true, []⟩ := sameH (Ls := []) (xs := []) (ys := []) ⟨.inr ⟨rfl, rfl⟩, rfl, fun j h => by simp at h⟩ ⟨.inr ⟨rfl, rfl⟩, rfl, fun j h => by simp at h⟩ (by simp) (by simp)
  by_cases h : s < 0 ∨ 3 ≤ s
  · exact ⟨.z, .z, .z, 101, by simp [Code], rfl, rfl, rfl, pReadN h hx.flat, dReadN h hx.flat, ez, ev, eh⟩
  · obtain ⟨n, rfl⟩ : ∃ n : Nat, s = (n : Int) := ⟨s.toNat, by omega⟩
    obtain ⟨K, L, om, c, e, t, b, g, g2, d, S⟩ := set9 (n := n) (by omega)
    have h1 := pReadSig S hx hI hl
    have h2 := dReadSig S hx hI hl
    unfold rdVal at h1 h2
    by_cases hc : rdCode n K L om c d Y = 0
    · rw [if_pos hc] at h1 h2
      unfold rdOut at h1 h2
      have hY : Y.length = sigN n := by
        unfold rdCode at hc
        by_cases hY : Y.length = sigN n
        · exact hY
        · rw [if_neg hY] at hc; omega
      have tl : (Y.take c).length = c := by rw [List.length_take]; have := S.sz; omega
      have ol := opA_len g d L (Y.drop c)
      have hl2 := hinR_len (rest c L d Y) om K
      have := S.c64
      have := S.K8
      have := S.L8
      refine ⟨_, _, _, _, rdCode_is .., rfl, rfl, rfl, h1, h2, ?_, ?_, ?_⟩
      · exact sameY (L := Y.take c) (.inl (by rw [slv, tl])) (.inl (by rw [slv, tl])) (by omega)
      · have w := isW_vecs .i64 (opA g d L (Y.drop c))
        rw [ol] at w
        exact sameV w w (by omega) (fun M hM => by
          obtain ⟨j, _, rfl⟩ := List.mem_map.1 hM
          rw [sgnL_len]; omega)
      · have w := isW_hins (hinR (rest c L d Y) om K)
        rw [hl2] at w
        exact sameH w w (by omega) (fun M hM => by
          obtain ⟨j, _, rfl⟩ := List.mem_map.1 hM
          rw [rowB_len]; omega)
    · rw [if_neg hc] at h1 h2
      exact ⟨.z, .z, .z, _, rdCode_is .., rfl, rfl, rfl, h1, h2, ez, ev, eh⟩
theorem highs (s : Int) {x : AV} {xs : List AV} {Ls : List (List Int)} (hv : IsW (IsL .i64) x xs Ls) (hm : Ls.length ≤ 10) :
    ∃ v cd, Code cd ∧ Out v ∧ FF tab 20 [.i .i64 s, x] = some ⟨.tp [v, errV cd], []⟩ ∧ FF tab 21 [.i .i64 s, x] = some ⟨.tp [v, .i .i64 cd], []⟩ := by
  by_cases h : s < 0 ∨ 3 ≤ s
  · exact ⟨.z, 101, by simp [Code], .inl rfl, pHighN h hv.flat, dHighN h hv.flat⟩
  · obtain ⟨n, rfl⟩ : ∃ n : Nat, s = (n : Int) := ⟨s.toNat, by omega⟩
    obtain ⟨K, L, om, c, e, t, b, g, g2, d, S⟩ := set9 (n := n) (by omega)
    obtain ⟨m, dd, H⟩ := hi9 S.g2d
    refine ⟨_, _, hiCode_is .., ?_, pHigh S H hv hm, dHigh S H hv hm⟩
    unfold hiVal
    by_cases hc : hiCode K m Ls = 0
    · rw [if_pos hc]
      refine .inr ⟨_, ?_, rfl⟩
      unfold hiCode at hc
      by_cases f1 : Fit K Ls
      · have al := hiA_len dd f1.2
        have al2 : Ls.length * (dd * 32) ≤ 10 * (6 * 32) := Nat.mul_le_mul hm (by have := H.d6; omega)
        omega
      · rw [if_neg f1] at hc; omega
    · rw [if_neg hc]; exact .inl rfl
theorem Out.froz {v : AV} (h : Out v) : v = .z ∨ ∃ L : List Int, v = .os (nums .u8 L) L.length 1 ∧ FF tab 14 [.sl (nums .u8 L) L.length, .sl (nums .u8 L) L.length] = some ⟨.b true, []⟩ := by
  rcases h with h | ⟨L, hl, h⟩
  · exact .inl h
  · exact .inr ⟨L, h, sameY (.inl rfl) (.inl rfl) hl⟩
set_option maxHeartbeats 32000000 in
theorem WireSigs (s : Int) (xC : AV) (C : List Int) (hC : IsNums .u8 xC C) (xZ : AV) (zs' : List AV) (Zs : List (List Int)) (hZ : IsVecs .i64 xZ zs' Zs) (xH : AV) (hs : List AV) (Hs : List (List Bool)) (hH : IsW IsB xH hs Hs)
    (y : AV) (Y : List Int) (hY : IsNums .u8 y Y) (w : AV) (ws : List AV) (Ws : List (List Int)) (hW : IsVecs .i64 w ws Ws) : FF tab 4 [.i .i64 s, .ag [xC, xZ, xH], y, w] = some ⟨.b true, []⟩ := by
  refine call_by (A := A4) rfl rfl ?_
  have fC := hC.isL.flat
  have fZ := hZ.isW.flat
  have fH := hH.flat
  have fY := hY.isL.flat
  have fW := hW.isW.flat
  have lC := lenV_isL hC.isL
  have lH := hH.lenV
  have lY := lenV_isL hY.isL
  obtain ⟨bz, hLz, iz⟩ := light hZ.isW
  obtain ⟨bw, hLw, iw⟩ := light hW.isW
  have ez : FF tab 14 [.z, .z] = some ⟨.b true, []⟩ := sameY (L := []) (.inr ⟨rfl, rfl⟩) (.inr ⟨rfl, rfl⟩) (by simp)
  cases bz with
  | false => simp (disch := first | assumption | omega | (simp only [lenS]; first | done | omega)) [A4, first11, hLz]
  | true =>
    cases bw with
    | false => simp (disch := first | assumption | omega | (simp only [lenS]; first | done | omega)) [A4, first11, hLz, hLw]
    | true =>
      by_cases c1 : (10 : Int) < (Hs.length : Int)
      · simp (disch := first | assumption | omega | (simp only [lenS]; first | done | omega)) [A4, first11, hLz, hLw, lH, c1]
      · by_cases c2 : (5000 : Int) < (Y.length : Int)
        · simp (disch := first | assumption | omega | (simp only [lenS]; first | done | omega)) [A4, first11, hLz, hLw, lH, lY, c1, c2]
        · by_cases c3 : (100 : Int) < (C.length : Int)
          · simp (disch := first | assumption | omega | (simp only [lenS]; first | done | omega)) [A4, first11, hLz, hLw, lH, lY, lC, c1, c2, c3]
          · simp (disch := first | assumption | omega | (simp only [lenS]; first | done | omega)) [A4, first11, hLz, hLw, lH, lY, lC, c1, c2, c3]
            refine w_heads Hs.length (fun i => ⟨[(10, .i .i64 i), (9, .b true), (5, .rf 5 0), (3, w), (2, y), (0, .i .i64 s)], [(5, [xC, xZ, xH])]⟩) (by simp (disch := first | assumption | omega | (simp only [lenS]; first | done | omega)) []) ?_ ?_
            · intro i hi
              have w1 : IntKind.i64.wrap ((i : Int) + 1) = (i : Int) + 1 := i64_in _ (by omega)
              have hix := hH.ix hi
              obtain ⟨u, hu, hU⟩ := hH.get hi
              have fu := hU.flat
              have lu := lenV_isB hU
              have hlt : (i : Int) < (Hs.length : Int) := by omega
              by_cases c4 : (300 : Int) < ((Hs[i].length : Nat) : Int)
              · simp (disch := first | assumption | omega | (simp only [lenS]; first | done | omega)) [lH, hlt, hix, hu, lu, c4]
              · simp (disch := first | assumption | omega | (simp only [lenS]; first | done | omega)) [lH, hlt, hix, hu, lu, c4, w1]
            · obtain ⟨v1, k1, o1, p1, q1, r1⟩ := sigs s hC.isL (by omega) hZ.isW (iz rfl).1 hH (by omega)
              obtain ⟨a, b, c, k2, o2, fa, fb, fc, q2, r2, t1, t2, t3⟩ := reads s hY.isL hY.2 (by omega)
              obtain ⟨v3, k3, o3, p3, q3, r3⟩ := highs s hW.isW (iw rfl).1
              have hsig := sigOf fC fZ fH
              have e1 := errV_flat k1
              have e2 := errV_flat k2
              have e3 := errV_flat k3
              have j1 := SeeIs o1 (k1 : Int)
              have j2 := SeeIs o2 (k2 : Int)
              have j3 := SeeIs o3 (k3 : Int)
              rw [decide_eq_true rfl] at j1 j2 j3
              generalize errV k1 = E1 at *
              generalize errV k2 = E2 at *
              generalize errV k3 = E3 at *
              rcases p1.froz with rfl | ⟨L1, rfl, m1⟩ <;> rcases p3.froz with rfl | ⟨L3, rfl, m3⟩
              · simp (disch := first | assumption | omega | (simp only [lenS]; first | done | omega)) [lH, q1, r1, q2, r2, q3, r3, hsig, j1, j2, j3, t1, t2, t3, ez]
              · simp (disch := first | assumption | omega | (simp only [lenS]; first | done | omega)) [lH, q1, r1, q2, r2, q3, r3, hsig, j1, j2, j3, t1, t2, t3, ez, m3]
              · simp (disch := first | assumption | omega | (simp only [lenS]; first | done | omega)) [lH, q1, r1, q2, r2, q3, r3, hsig, j1, j2, j3, t1, t2, t3, ez, m1]
              · simp (disch := first | assumption | omega | (simp only [lenS]; first | done | omega)) [lH, q1, r1, q2, r2, q3, r3, hsig, j1, j2, j3, t1, t2, t3, m1, m3]
end Zab.YtbmhaamjajoggaaDoorB
