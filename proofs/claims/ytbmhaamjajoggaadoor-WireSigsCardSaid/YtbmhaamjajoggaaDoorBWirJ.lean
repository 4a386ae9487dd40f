/- Signatures out of bytes: the document's function. -/
import Derived.Test.YtbmhaamjajoggaaDoorZabY
import Derived.Test.YtbmhaamjajoggaaDoorBWirI
namespace Zab.YtbmhaamjajoggaaDoorB
open Go
open Go.IntWalk (i64_in)
set_option maxRecDepth 100000
set_option linter.unusedSimpArgs false
set_option linter.unusedVariables false
attribute [-simp] getElem?_pos

/-- The rows of what is read, behind so many hints. -/
noncomputable def preR (C V : AV) (Y : List Int) (om : Nat) : Nat → List (Nat × List AV)
  | 0 => [(1000000000014, [C, V, .z])]
  | i + 1 => [(1000000000014, [C, V, .rs 128 0 (i + 1) 1]), (128, hins (hinR Y om (i + 1)))]
theorem preR_is (C V : AV) (Y : List Int) (om i n1 : Nat) (hn : n1 = i + 1) {B : List Bool} (h : hinR Y om (i + 1) = hinR Y om i ++ [B]) (hB : B.length = 256) :
    (preR C V Y om i = [(1000000000014, [C, V, .z])] ∧ n1 = 1 ∧ [AV.sl (bools B) 256] = hins (hinR Y om (i + 1))) ∨ (preR C V Y om i = [(1000000000014, [C, V, .rs 128 0 i 1]), (128, hins (hinR Y om i))] ∧ n1 = i + 1 ∧ hins (hinR Y om i) ++ [AV.sl (bools B) 256] = hins (hinR Y om (i + 1))) := by
  have hs : hins (hinR Y om i) ++ [AV.sl (bools B) 256] = hins (hinR Y om (i + 1)) := by rw [h, ← hins_snoc, hB]
  cases i with
  | zero => exact .inl ⟨rfl, by omega, hs⟩
  | succ i => exact .inr ⟨rfl, hn, hs⟩
theorem appZ1 (s : List (Nat × AV)) (l : List (Nat × List AV)) (t : Nat) (v : AV) : appS ⟨s, l⟩ () t 1 24 .z (.sl [v] 1) = some (St.root ⟨s, l⟩ t [v] (.rs t 0 1 1)) := appS_z (srcV_sl rfl) (by decide)
set_option maxHeartbeats 32000000 in
theorem dReadSig {n K L om c : Nat} {e t b g g2 : Int} {d : Nat} (S : Set9 n K L om c e t b g g2 d) {x0 : AV} {Y0 : List Int} (hx0 : IsL .u8 x0 Y0) (hI0 : ∀ y ∈ Y0, inK .u8 y) (hl0 : Y0.length ≤ 5000) :
    FF tab 19 [.i .i64 n, x0] = some ⟨.tp [.ag (rdVal n K L om c g d Y0), .i .i64 (rdCode n K L om c d Y0)], []⟩ := by
  refine call_by (A := A19) rfl rfl ?_
  obtain ⟨hn, eq, K1, K8, L1, L8, om1, om80, c1, c64, gd, g2d, sz⟩ := S
  have fx0 := hx0.flat
  have lx0 := lenV_isL hx0
  have n0 : ¬ (n : Int) < 0 := by omega
  have n2 : ¬ 2 < (n : Int) := by omega
  have n3 : (n : Int) < 3 := by omega
  have nt : (n : Int).toNat = n := Int.toNat_natCast _
  have hp := sS_part hn
  rw [eq] at hp
  unfold seven at hp
  have h27 : ¬ 27 ≤ n * 9 := by omega
  have ls := sS_len
  obtain ⟨q1, q2⟩ := quo4 c c64
  obtain ⟨za, zb, hz⟩ := dSz9 hn
  by_cases a1 : (Y0.length : Int) = ((sigN n : Nat) : Int)
  · have a1' : Y0.length = sigN n := by omega
    have hxe : x0 = .sl (nums .u8 Y0) Y0.length := by rcases hx0 with h | ⟨_, h⟩; exact h; rw [h] at a1'; simp at a1'; omega
    have k1 := cutL (D := Y0) (s := c) (by omega)
    have k2 := cutR (D := Y0) (s := c) (by omega)
    rw [← hxe] at k1 k2
    have tl : (Y0.take c).length = c := by rw [List.length_take]; omega
    have hCl := dBytes (x := .sl (nums .u8 (Y0.take c)) c) (L := Y0.take c) (.inl (by rw [slv, tl])) (by omega)
    rw [tl] at hCl
    have dl : (Y0.drop c).length = L * (32 * d) + (om + K) := by rw [List.length_drop]; omega
    have hOp := dOpened (bndG gd) (okG gd) (n := L) (by omega) (L := Y0.drop c) (in_drop hI0 c) (by omega) (by omega)
    have hl : (rest c L d Y0).length = om + K := by unfold rest; rw [List.length_drop, dl]; omega
    have hI := in_drop (in_drop hI0 c) (L * (32 * d))
    rw [show (Y0.drop c).drop (L * (32 * d)) = rest c L d Y0 from rfl] at hOp hI
    have wg : IntKind.i64.wrap (g - 1) = g - 1 := i64_in _ (by omega)
    have hcode : rdCode n K L om c d Y0 = if okR (rest c L d Y0) om K then 0 else 104 := by unfold rdCode; rw [if_pos a1']
    have hval : rdVal n K L om c g d Y0 = if okR (rest c L d Y0) om K then [.sl (nums .u8 (Y0.take c)) c, .sl (vecs .i64 (opA g d L (Y0.drop c))) L, .sl (hins (hinR (rest c L d Y0) om K)) K] else [.z, .z, .z] := by
      rw [rdVal, hcode]
      by_cases h : okR (rest c L d Y0) om K
      · rw [if_pos h, if_pos h, if_pos rfl]; rfl
      · rw [if_neg h, if_neg h, if_neg (by omega)]
    rw [← a1] at hz
    rw [hcode, hval]
    clear hxe dl tl hcode hval
    generalize rest c L d Y0 = Y at *
    generalize vecs .i64 (opA g d L (Y0.drop c)) = V at *
    generalize nums .u8 (Y0.drop c) = Yd at *
    generalize (Y0.drop c).length = yn at *
    generalize nums .u8 (Y0.take c) = Yt at *
    have hx : IsL .u8 (.sl (nums .u8 Y) Y.length) Y := .inl rfl
    generalize AV.sl (nums .u8 Y) Y.length = x at *
    have fx := hx.flat
    have bY := ni_byte hI
    simp (disch := first | assumption | omega | (simp only [lenS]; first | done | omega)) [A19, DsaSets, n0, n2, n3, nt, hp, h27, ls, lx0, q1, q2, hz, k1, k2, hCl, hOp, wg]
    refine w_headsP K (fun i => ⟨[(16, .i .i64 i), (15, .i .i64 (atH Y om i)), (14, .rf 1000000000014 0), (12, x), (9, .rf 9 0), (4, .rf 4 0)], preR (.sl Yt c) (.sl V L) Y om i ++ [(9, seven K L e t b g g2 om (4 * (c : Int))), (4, [.z, .z, .z])]⟩) (fun i => ∀ j, j < i → okI Y om j) (by simp (disch := first | assumption | omega | (simp only [lenS]; first | done | omega)) [atH, preR, seven]) (fun j h => by omega) ?_ ?_
    · intro i hi hP
      have w1 : IntKind.i64.wrap ((i : Int) + 1) = (i : Int) + 1 := i64_in _ (by omega)
      have hlt : (i : Int) < (K : Int) := by omega
      have wo : IntKind.i64.wrap ((om : Int) + (i : Int)) = ((om + i : Nat) : Int) := by rw [show (om : Int) + (i : Int) = ((om + i : Nat) : Int) by omega]; exact i64_in _ (by omega)
      have ix := ixSV_isL hx (k' := .i64) (j := ((om + i : Nat) : Int)) (by omega) (by omega)
      rw [Int.toNat_natCast] at ix
      have gx := nums_get (k := .u8) (L := Y) (j := om + i) (by omega)
      obtain ⟨z0, z1⟩ := bY (om + i)
      have wz := wu8 ⟨z0, z1⟩
      obtain ⟨a, ha, ha2⟩ := atH_ok hP fun k => (bY k).1
      obtain ⟨z, hz'⟩ : ∃ z : Nat, ni Y (om + i) = (z : Int) := ⟨(ni Y (om + i)).toNat, by omega⟩
      have hnx := atH_next Y om i
      have hrn := hinR_next Y om i
      have hrl := hinR_len Y om i
      have hbad : ¬ okI Y om i → ¬ okR Y om K := fun h h2 => h (h2.1 i hi)
      have hokI : okI Y om i ↔ (a : Int) ≤ z ∧ (z : Int) ≤ om ∧ ∀ k, a < k → k < z → ni Y (k - 1) < ni Y k := by unfold okI; rw [ha, hz', Int.toNat_natCast, Int.toNat_natCast]
      rw [hnx]
      rw [ha] at hrn
      rw [hz'] at gx wz hrn ⊢
      rw [Int.toNat_natCast, Int.toNat_natCast] at hrn
      rw [ha]
      clear hnx ha hz'
      generalize ((om + i : Nat) : Int) = O1 at *
      generalize om + i = O2 at *
      obtain ⟨n1, hn1⟩ : ∃ n1, n1 = i + 1 := ⟨_, rfl⟩
      have hHl : (hins (hinR Y om i)).length = i := by rw [hins_length, hrl]
      have hb1 : ((i : Int) + 1) * 24 ≤ 140737488355328 := by omega
      have hpre := preR_is (.sl Yt c) (.sl V L) Y om i n1 hn1 hrn (rowB_len Y a z)
      rw [show preR (.sl Yt c) (.sl V L) Y om (i + 1) = [(1000000000014, [.sl Yt c, .sl V L, .rs 128 0 n1 1]), (128, hins (hinR Y om (i + 1)))] by rw [hn1]; rfl]
      clear hn1 hrn
      generalize preR (.sl Yt c) (.sl V L) Y om i = pre at *
      generalize hins (hinR Y om (i + 1)) = H1 at *
      generalize hins (hinR Y om i) = H0 at *
      have hpre2 : pre = [(1000000000014, [.sl Yt c, .sl V L, .z])] ∨ pre = [(1000000000014, [.sl Yt c, .sl V L, .rs 128 0 i 1]), (128, H0)] := by rcases hpre with h | h; exact .inl h.1; exact .inr h.1
      by_cases c1 : (z : Int) < (a : Int)
      · have hne := hbad fun h => by have := hokI.1 h; omega
        rw [if_neg hne, if_neg hne]
        clear hpre
        rcases hpre2 with rfl | rfl
        all_goals simp (disch := first | assumption | omega | (simp only [lenS]; first | done | omega)) [seven, hlt, wo, ix, gx, wz, c1]
      · by_cases c2 : (om : Int) < (z : Int)
        · have hne := hbad fun h => by have := hokI.1 h; omega
          rw [if_neg hne, if_neg hne]
          clear hpre
          rcases hpre2 with rfl | rfl
          all_goals simp (disch := first | assumption | omega | (simp only [lenS]; first | done | omega)) [seven, hlt, wo, ix, gx, wz, c1, c2]
        · rcases hpre with ⟨hpre, hn1, hsn⟩ | ⟨hpre, hn1, hsn⟩
          all_goals
            clear hpre2
            rw [hpre]
            simp (disch := first | assumption | omega | (simp only [lenS]; first | done | omega)) [seven, hlt, wo, ix, gx, wz, c1, c2, -List.reduceReplicate]
            refine w_headsP (z - a) (fun j => ⟨[(19, .i .i64 ((a + j : Nat) : Int)), (18, .rs 95 0 256 1), (17, .i .i64 z), (16, .i .i64 i), (15, .i .i64 a), (14, .rf 1000000000014 0), (12, x), (9, .rf 9 0), (4, .rf 4 0)], pre ++ [(95, bools (rowB Y a (a + j))), (9, seven K L e t b g g2 om (4 * (c : Int))), (4, [.z, .z, .z])]⟩) (fun j => ∀ k, a < k → k < a + j → ni Y (k - 1) < ni Y k) (by rw [hpre]; simp (disch := first | assumption | omega | (simp only [lenS]; first | done | omega)) [rowB_zero, seven, -List.reduceReplicate]) (fun k h h2 => by omega) ?_ ?_
            · intro j hj hp2
              obtain ⟨k, hk⟩ : ∃ k, k = a + j := ⟨_, rfl⟩
              rw [show a + (j + 1) = k + 1 by omega, ← hk, hpre]
              rw [← hk] at hp2
              have hkz : (k : Int) < (z : Int) := by omega
              have wk : IntKind.i64.wrap ((k : Int) + 1) = (k : Int) + 1 := i64_in _ (by omega)
              have ixk := ixSV_isL hx (k' := .i64) (j := (k : Int)) (by omega) (by omega)
              rw [Int.toNat_natCast] at ixk
              have gk := nums_get (k := .u8) (L := Y) (j := k) (by omega)
              obtain ⟨y0, y1⟩ := bY k
              have rs := rowB_set (L := Y) (a := a) (e := k) (by omega) y0
              have r0 := rowB_len Y a k
              have r1 := rowB_len Y a (k + 1)
              have tl : (ni Y k).toNat < 256 := by omega
              generalize rowB Y a (k + 1) = R1 at *
              generalize rowB Y a k = R0 at *
              by_cases c3 : (a : Int) < (k : Int)
              · have wk1 : IntKind.i64.wrap ((k : Int) - 1) = ((k - 1 : Nat) : Int) := by rw [show (k : Int) - 1 = ((k - 1 : Nat) : Int) by omega]; exact i64_in _ (by omega)
                have ixp := ixSV_isL hx (k' := .i64) (j := ((k - 1 : Nat) : Int)) (by omega) (by omega)
                rw [Int.toNat_natCast] at ixp
                have gp := nums_get (k := .u8) (L := Y) (j := k - 1) (by omega)
                by_cases c4 : ni Y k ≤ ni Y (k - 1)
                · have hne := hbad fun h => by have := (hokI.1 h).2.2 k (by omega) (by omega); omega
                  rw [if_neg hne, if_neg hne]
                  generalize ni Y k = y at *
                  generalize ni Y (k - 1) = y' at *
                  generalize ((k - 1 : Nat) : Int) = P1 at *
                  generalize k - 1 = P2 at *
                  simp (disch := first | assumption | omega | (simp only [lenS]; first | done | omega)) [seven, hkz, c3, wk1, ixk, gk, ixp, gp, c4]
                · have hp3 : ∀ m, a < m → m < k + 1 → ni Y (m - 1) < ni Y m := fun m h1 h2 => by
                    by_cases e : m = k
                    · subst e; omega
                    · exact hp2 m h1 (by omega)
                  generalize hP3 : (∀ m, a < m → m < k + 1 → ni Y (m - 1) < ni Y m) = PP at *
                  generalize ni Y k = y at *
                  generalize ni Y (k - 1) = y' at *
                  generalize ((k - 1 : Nat) : Int) = P1 at *
                  generalize k - 1 = P2 at *
                  simp (disch := first | assumption | omega | (simp only [lenS]; first | done | omega)) [seven, hkz, c3, wk1, ixk, gk, ixp, gp, c4, y0, y1, tl, rs, r0, r1, wk, hp3]
              · have hp3 : ∀ m, a < m → m < k + 1 → ni Y (m - 1) < ni Y m := fun m h1 h2 => by omega
                generalize hP3 : (∀ m, a < m → m < k + 1 → ni Y (m - 1) < ni Y m) = PP at *
                generalize ni Y k = y at *
                simp (disch := first | assumption | omega | (simp only [lenS]; first | done | omega)) [seven, hkz, c3, ixk, gk, y0, y1, tl, rs, r0, r1, wk, hp3]
            · intro hp2
              have e2 : a + (z - a) = z := by omega
              rw [e2] at hp2 ⊢
              rw [hpre]
              have hI2 : okI Y om i := hokI.2 ⟨by omega, by omega, hp2⟩
              have hP2 : ∀ j, j < i + 1 → okI Y om j := fun j hj => by
                by_cases e : j = i
                · subst e; exact hI2
                · exact hP j (by omega)
              have r0 := rowB_len Y a z
              generalize rowB Y a z = R0 at *
              have tk : (bools R0).take 256 = bools R0 := List.take_of_length_le (by rw [bools_length, r0]; exact Nat.le_refl _)
              simp (disch := first | assumption | omega | (simp only [lenS]; first | done | omega)) [seven, hHl, hb1, w1, r0, tk, hn1, appZ1]
              exact ⟨hsn, hP2⟩
    · intro hP
      obtain ⟨a, ha, ha2⟩ := atH_ok hP fun k => (bY k).1
      have hR : okR Y om K ↔ ∀ k, a ≤ k → k < om → ni Y k = 0 := by
        unfold okR
        rw [ha, Int.toNat_natCast]
        exact ⟨fun h => h.2, fun h => ⟨hP, h⟩⟩
      have hHl : (hins (hinR Y om K)).length = K := by rw [hins_length, hinR_len]
      have hpK : preR (.sl Yt c) (.sl V L) Y om K = [(1000000000014, [.sl Yt c, .sl V L, .rs 128 0 K 1]), (128, hins (hinR Y om K))] := by
        cases K with
        | zero => omega
        | succ K => rfl
      rw [ha, hpK]
      generalize hins (hinR Y om K) = Hc at *
      clear hpK hP ha
      simp (disch := first | assumption | omega | (simp only [lenS]; first | done | omega)) [seven]
      refine w_headsP (om - a) (fun j => ⟨[(20, .i .i64 ((a + j : Nat) : Int)), (14, .rf 1000000000014 0), (12, x), (9, .rf 9 0), (4, .rf 4 0)], [(1000000000014, [.sl Yt c, .sl V L, .rs 128 0 K 1]), (128, Hc), (9, seven K L e t b g g2 om (4 * (c : Int))), (4, [.z, .z, .z])]⟩) (fun j => ∀ k, a ≤ k → k < a + j → ni Y k = 0) (by simp (disch := first | assumption | omega | (simp only [lenS]; first | done | omega)) [seven]) (fun k h h2 => by omega) ?_ ?_
      · intro j hj hp2
        obtain ⟨k, hk⟩ : ∃ k, k = a + j := ⟨_, rfl⟩
        rw [show a + (j + 1) = k + 1 by omega, ← hk]
        rw [← hk] at hp2
        have hkz : (k : Int) < (om : Int) := by omega
        have wk : IntKind.i64.wrap ((k : Int) + 1) = (k : Int) + 1 := i64_in _ (by omega)
        have ixk := ixSV_isL hx (k' := .i64) (j := (k : Int)) (by omega) (by omega)
        rw [Int.toNat_natCast] at ixk
        have gk := nums_get (k := .u8) (L := Y) (j := k) (by omega)
        by_cases c3 : ni Y k = 0
        · have hp3 : ∀ m, a ≤ m → m < k + 1 → ni Y m = 0 := fun m h1 h2 => by
            by_cases e : m = k
            · subst e; exact c3
            · exact hp2 m h1 (by omega)
          rw [c3] at gk
          simp (disch := first | assumption | omega | (simp only [lenS]; first | done | omega)) [seven, hkz, ixk, gk, wk]
          exact hp3
        · have hne : ¬ okR Y om K := fun h => c3 (hR.1 h k (by omega) (by omega))
          rw [if_neg hne, if_neg hne]
          generalize ni Y k = y at *
          simp (disch := first | assumption | omega | (simp only [lenS]; first | done | omega)) [seven, hkz, ixk, gk, c3]
      · intro hp2
        have e2 : a + (om - a) = om := by omega
        rw [e2] at hp2 ⊢
        have hyes : okR Y om K := hR.2 hp2
        rw [if_pos hyes, if_pos hyes]
        have tk : Hc.take K = Hc := List.take_of_length_le (by omega)
        simp (disch := first | assumption | omega | (simp only [lenS]; first | done | omega)) [seven, hHl, tk]
  · have hc : rdCode n K L om c d Y0 = 102 := if_neg fun h => a1 (by rw [h])
    rw [rdVal, hc, if_neg (by omega)]
    generalize ((sigN n : Nat) : Int) = sn at *
    simp (disch := first | assumption | omega | (simp only [lenS]; first | done | omega)) [A19, n0, n2, lx0, hz, a1]
end Zab.YtbmhaamjajoggaaDoorB
