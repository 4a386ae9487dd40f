/- High parts as bytes: both functions, walked. -/
import Derived.Test.YtbmhaamjajoggaaDoorZabY
import Derived.Test.YtbmhaamjajoggaaDoorBWirK
namespace Zab.YtbmhaamjajoggaaDoorB
open Go
open Go.IntWalk (i64_in)
set_option maxRecDepth 100000
set_option linter.unusedSimpArgs false
set_option linter.unusedVariables false
attribute [-simp] getElem?_pos

structure Hi (g2 : Int) (m dd : Nat) : Prop where
  w2 : IntKind.i64.wrap (2 * g2) = 2 * g2
  nz : ¬ 2 * g2 = 0
  q : (8380416 : Int).tdiv (2 * g2) = (m : Int)
  wm : IntKind.i64.wrap (m : Int) = (m : Int)
  w1 : IntKind.i64.wrap ((m : Int) - 1) = (m : Int) - 1
  m1 : 1 ≤ m
  m44 : m ≤ 44
  d1 : 1 ≤ dd
  d6 : dd ≤ 6
  le : m ≤ 2 ^ dd
  hp : FF tab 58 [.i .i64 ((m : Int) - 1)] = some ⟨.i .i64 dd, []⟩
  hw : FF tab 60 [.i .i64 ((m : Int) - 1)] = some ⟨.i .i64 dd, []⟩
theorem hi9 {g2 : Int} (h : g2 = 95232 ∨ g2 = 261888) : ∃ m dd : Nat, Hi g2 m dd := by
  rcases h with rfl | rfl
  · exact ⟨44, 6, by decide, by decide, by decide, by decide, by decide, by decide, by decide, by decide, by decide, by decide, pWidthN (n := 43) (by omega), dWidth (n := 43) (w := 6) (by omega) (by decide) (fun j hj => Int.le_trans (two_le hj (by omega)) (by decide)) (by omega)⟩
  · exact ⟨16, 4, by decide, by decide, by decide, by decide, by decide, by decide, by decide, by decide, by decide, by decide, pWidthN (n := 15) (by omega), dWidth (n := 15) (w := 4) (by omega) (by decide) (fun j hj => Int.le_trans (two_le hj (by omega)) (by decide)) (by omega)⟩
def InM (m : Nat) (L : List Int) : Prop := ∀ a ∈ L, 0 ≤ a ∧ a < (m : Int)
instance (m : Nat) (L : List Int) : Decidable (InM m L) := inferInstanceAs (Decidable (∀ a ∈ L, _))
theorem inM_iff {m : Nat} {L : List Int} : (¬ ∃ k, k < L.length ∧ (ni L k < 0 ∨ (m : Int) ≤ ni L k)) ↔ InM m L := by
  constructor
  · intro h a ha
    obtain ⟨k, hk, rfl⟩ := List.mem_iff_getElem.1 ha
    exact Classical.byContradiction fun hn => h ⟨k, hk, by rw [ni_get hk]; omega⟩
  · rintro h ⟨k, hk, hn⟩
    have := h _ (List.getElem_mem hk)
    rw [ni_get hk] at hn
    omega
theorem inM_B {m dd : Nat} (h : m ≤ 2 ^ dd) {L : List Int} (hL : InM m L) : ∀ y ∈ L, InB dd y := fun y hy => by
  have := hL y hy
  have e : ((m : Nat) : Int) ≤ ((2 ^ dd : Nat) : Int) := by omega
  exact ⟨by omega, by omega⟩
def hiB (dd : Nat) (L : List Int) : List Int := bytL (num dd L) (dd * L.length / 8)
theorem hiB_len (dd : Nat) (L : List Int) : (hiB dd L).length = dd * L.length / 8 := bytL_len _ _
def hiA (dd : Nat) (Ls : List (List Int)) : List Int := (Ls.map (hiB dd)).flatten
theorem hiA_next (dd : Nat) {Ls : List (List Int)} {k : Nat} (hk : k < Ls.length) : hiA dd (Ls.take (k + 1)) = hiA dd (Ls.take k) ++ hiB dd Ls[k] := by
  rw [take_one hk]; simp only [hiA, List.map_append, List.flatten_append, List.map_cons, List.map_nil, List.flatten_cons, List.flatten_nil, List.append_nil]
theorem hiA_len (dd : Nat) : ∀ {Ls : List (List Int)}, (∀ L ∈ Ls, L.length = 256) → (hiA dd Ls).length = Ls.length * (dd * 32)
  | [], _ => by simp [hiA]
  | L :: r, h => by
    have ih := hiA_len dd (Ls := r) fun M hM => h M (by simp [hM])
    have e : dd * L.length / 8 = dd * 32 := by rw [h L (by simp)]; omega
    simp only [hiA, List.map_cons, List.flatten_cons, List.length_append, hiB_len, List.length_cons] at ih ⊢
    rw [ih, e, Nat.succ_mul]; omega
def hiCode (K m : Nat) (Ls : List (List Int)) : Nat := if Fit K Ls then (if ∀ L ∈ Ls, InM m L then 0 else 101) else 102
def hiVal (K m dd : Nat) (Ls : List (List Int)) : AV := if hiCode K m Ls = 0 then .os (nums .u8 (hiA dd Ls)) (hiA dd Ls).length 1 else .z
theorem hiCode_is (K m : Nat) (Ls : List (List Int)) : Code (hiCode K m Ls) := by
  unfold hiCode Code; split
  · split <;> simp
  · simp
set_option maxHeartbeats 16000000 in
theorem pHigh {n K L om c : Nat} {e t b g g2 : Int} {d : Nat} (S : Set9 n K L om c e t b g g2 d) {m dd : Nat} (H : Hi g2 m dd) {x : AV} {xs : List AV} {Ls : List (List Int)} (hv : IsW (IsL .i64) x xs Ls) (hm : Ls.length ≤ 10) :
    FF tab 20 [.i .i64 n, x] = some ⟨.tp [hiVal K m dd Ls, errV (hiCode K m Ls)], []⟩ := by
  refine call_by (A := A20) rfl rfl ?_
  obtain ⟨hn, eq, K1, K8, L1, L8, om1, om80, c1, c64, gd, g2d, sz⟩ := S
  obtain ⟨w2, nz, q, wm, w1, m1, m44, d1, d6, le, hpw, _⟩ := H
  have fx := hv.flat
  have lx := hv.lenV
  have ho := wOfI hn
  rw [eq] at ho
  unfold seven at ho
  have hLo := long (n := K) (by omega) hv (by omega)
  by_cases a1 : Fit K Ls
  · have hcode : hiCode K m Ls = if ∀ L ∈ Ls, InM m L then 0 else 101 := by unfold hiCode; rw [if_pos a1]
    simp (disch := first | assumption | omega | (simp only [lenS]; first | done | omega)) [A20, ho, lx, hLo, a1, w2, nz, q, wm]
    refine w_headsP Ls.length (fun k => ⟨[(34, .i .i64 k), (33, .i .i64 Ls.length), (32, x), (9, .rs 9 0 (hiA dd (Ls.take k)).length 1), (8, .rf 8 0)], [(9, nums .u8 (hiA dd (Ls.take k))), (8, [.i .i64 m])]⟩) (fun k => ∀ j (h : j < Ls.length), j < k → InM m Ls[j]) (by simp (disch := first | assumption | omega | (simp only [lenS]; first | done | omega)) [hiA, nums_nil]) (fun j _ h => by omega) ?_ ?_
    · intro k hk hp
      have wk : IntKind.i64.wrap ((k : Int) + 1) = (k : Int) + 1 := i64_in _ (by omega)
      have hix := hv.ix hk
      obtain ⟨u, hu, hU⟩ := hv.get hk
      have fu := hU.flat
      have hlt : (k : Int) < (Ls.length : Int) := by omega
      have hL := a1.2 _ (List.getElem_mem hk)
      obtain ⟨tt, hc, ht⟩ := cFI hU (by omega) m
      have hM : (¬ tt = true) ↔ InM m Ls[k] := by rw [ht]; exact inM_iff
      clear ht
      cases tt with
      | true =>
        have hne : ¬ ∀ L ∈ Ls, InM m L := fun h => hM.2 (h _ (List.getElem_mem hk)) rfl
        rw [hiVal, hcode, if_neg hne, if_neg (by omega), e101]
        generalize hiA dd (Ls.take k) = T at *
        simp (disch := first | assumption | omega | (simp only [lenS]; first | done | omega)) [hlt, hix, hu, hc]
      | false =>
        have hin := hM.1 (by simp)
        have hB := pBits d1 (by omega) hU (by omega) (by rw [hL]; omega) (inM_B le hin)
        have hp2 : ∀ j (h : j < Ls.length), j < k + 1 → InM m Ls[j] := fun j h hj => by
          by_cases e : j = k
          · subst e; exact hin
          · exact hp j h (by omega)
        have hs := hiA_len dd (Ls := Ls.take k) fun M hM => a1.2 M (List.mem_of_mem_take hM)
        rw [List.length_take] at hs
        have hk2 : min k Ls.length * (dd * 32) ≤ 10 * (6 * 32) := Nat.mul_le_mul (by omega) (by omega)
        have hq := hiB_len dd Ls[k]
        rw [show bytL (num dd Ls[k]) (dd * Ls[k].length / 8) = hiB dd Ls[k] from rfl, ← hq] at hB
        rw [hL] at hq
        rw [hiA_next dd hk]
        have hTl : (hiA dd (Ls.take k)).length ≤ 10000 := by omega
        generalize hiA dd (Ls.take k) = T at *
        generalize hiB dd Ls[k] = B at *
        have hb1 : ((T.length : Int) + (B.length : Int)) * 1 ≤ 140737488355328 := by omega
        simp (disch := first | assumption | omega | (simp only [lenS]; first | done | omega)) [hlt, hix, hu, hc, hB, w1, hpw, wk, hb1]
        exact hp2
    · intro hp
      have hR : ∀ L ∈ Ls, InM m L := fun L hL => by
        obtain ⟨j, hj, rfl⟩ := List.mem_iff_getElem.1 hL
        exact hp j hj (by omega)
      rw [hiVal, hcode, if_pos hR, if_pos rfl, List.take_length, e0]
      generalize hiA dd Ls = T at *
      simp (disch := first | assumption | omega | (simp only [lenS]; first | done | omega)) []
  · have hc : hiCode K m Ls = 102 := if_neg a1
    rw [hiVal, hc, if_neg (by omega), e102]
    simp (disch := first | assumption | omega | (simp only [lenS]; first | done | omega)) [A20, ho, hLo, a1]
theorem dBytesOf {dd : Nat} (d1 : 1 ≤ dd) (d24 : dd ≤ 24) {x : AV} {L : List Int} (hx : IsL .i64 x L) (hs : L.length ≤ 100000) (h8 : dd * L.length % 8 = 0) (hL : ∀ y ∈ L, InB dd y) : FF tab 59 [.i .i64 dd, x] = some ⟨.sl (nums .u8 (hiB dd L)) (hiB dd L).length, []⟩ := by
  refine call_by (A := A59) rfl rfl ?_
  have fx := hx.flat
  have hB := dBits d1 d24 hx hs h8 hL
  have hq := hiB_len dd L
  rw [show bytL (num dd L) (dd * L.length / 8) = hiB dd L from rfl, ← hq] at hB
  generalize hiB dd L = B at *
  simp (disch := first | assumption | omega | (simp only [lenS]; first | done | omega)) [A59, hB]
set_option maxHeartbeats 16000000 in
theorem dHigh {n K L om c : Nat} {e t b g g2 : Int} {d : Nat} (S : Set9 n K L om c e t b g g2 d) {m dd : Nat} (H : Hi g2 m dd) {x : AV} {xs : List AV} {Ls : List (List Int)} (hv : IsW (IsL .i64) x xs Ls) (hm : Ls.length ≤ 10) :
    FF tab 21 [.i .i64 n, x] = some ⟨.tp [hiVal K m dd Ls, .i .i64 (hiCode K m Ls)], []⟩ := by
  refine call_by (A := A21) rfl rfl ?_
  obtain ⟨hn, eq, K1, K8, L1, L8, om1, om80, c1, c64, gd, g2d, sz⟩ := S
  obtain ⟨w2, nz, q, wm, w1, m1, m44, d1, d6, le, _, hpw⟩ := H
  have fx := hv.flat
  have lx := hv.lenV
  have n0 : ¬ (n : Int) < 0 := by omega
  have n2 : ¬ 2 < (n : Int) := by omega
  have n3 : (n : Int) < 3 := by omega
  have nt : (n : Int).toNat = n := Int.toNat_natCast _
  have hp := sS_part hn
  rw [eq] at hp
  unfold seven at hp
  have h27 : ¬ 27 ≤ n * 9 := by omega
  have ls := sS_len
  have hLo := vectors (n := K) (by omega) hv
  by_cases a1 : Fit K Ls
  · have hcode : hiCode K m Ls = if ∀ L ∈ Ls, InM m L then 0 else 101 := by unfold hiCode; rw [if_pos a1]
    have hKl := a1.1
    simp (disch := first | assumption | omega | (simp only [lenS]; first | done | omega)) [A21, DsaSets, n0, n2, n3, nt, hp, h27, ls, hLo, a1, w2, nz, q, wm, w1]
    refine w_headsP K (fun k => ⟨[(9, .i .i64 k), (8, .rs 8 0 (hiA dd (Ls.take k)).length 1), (7, .i .i64 ((m : Int) - 1)), (6, .rf 6 0), (1, x)], [(8, nums .u8 (hiA dd (Ls.take k))), (6, seven K L e t b g g2 om (4 * (c : Int)))]⟩) (fun k => ∀ j (h : j < Ls.length), j < k → InM m Ls[j]) (by simp (disch := first | assumption | omega | (simp only [lenS]; first | done | omega)) [hiA, nums_nil, seven]) (fun j _ h => by omega) ?_ ?_
    · intro k hk hp'
      have hkl : k < Ls.length := by omega
      have wk : IntKind.i64.wrap ((k : Int) + 1) = (k : Int) + 1 := i64_in _ (by omega)
      have hix := hv.ix hkl
      obtain ⟨u, hu, hU⟩ := hv.get hkl
      have fu := hU.flat
      have hlt : (k : Int) < (K : Int) := by omega
      have hL := a1.2 _ (List.getElem_mem hkl)
      have hs := hiA_len dd (Ls := Ls.take k) fun M hM => a1.2 M (List.mem_of_mem_take hM)
      rw [List.length_take] at hs
      have hk2 : min k Ls.length * (dd * 32) ≤ 10 * (6 * 32) := Nat.mul_le_mul (by omega) (by omega)
      rw [hiA_next dd hkl]
      have hTl : (hiA dd (Ls.take k)).length ≤ 10000 := by omega
      generalize hiA dd (Ls.take k) = T at *
      simp (disch := first | assumption | omega | (simp only [lenS]; first | done | omega)) [seven, hlt]
      refine w_headsP 256 (fun j => ⟨[(10, .i .i64 j), (9, .i .i64 k), (8, .rs 8 0 T.length 1), (7, .i .i64 ((m : Int) - 1)), (6, .rf 6 0), (1, x)], [(8, nums .u8 T), (6, seven K L e t b g g2 om (4 * (c : Int)))]⟩) (fun j => ∀ i, i < j → 0 ≤ ni Ls[k] i ∧ ni Ls[k] i < (m : Int)) (by simp (disch := first | assumption | omega | (simp only [lenS]; first | done | omega)) [seven]) (fun j h => by omega) ?_ ?_
      · intro j hj hp2
        have wj : IntKind.i64.wrap ((j : Int) + 1) = (j : Int) + 1 := i64_in _ (by omega)
        have hj2 : (j : Int) < 256 := by omega
        have tn : (j : Int).toNat = j := Int.toNat_natCast _
        have ix := ixSV_isL hU (k' := .i64) (j := (j : Int)) (by omega) (by omega)
        rw [tn] at ix
        have gx := nums_get (k := .i64) (L := Ls[k]) (j := j) (by omega)
        by_cases c1 : ni Ls[k] j < 0
        · have hne : ¬ ∀ L ∈ Ls, InM m L := fun h => by
            have h2 := h _ (List.getElem_mem hkl) _ (List.getElem_mem (show j < Ls[k].length by omega))
            rw [← ni_get] at h2; omega
          rw [hiVal, hcode, if_neg hne, if_neg (by omega)]
          simp (disch := first | assumption | omega | (simp only [lenS]; first | done | omega)) [seven, hj2, hix, hu, ix, gx, c1]
        · by_cases c2 : (m : Int) - 1 < ni Ls[k] j
          · have hne : ¬ ∀ L ∈ Ls, InM m L := fun h => by
              have h2 := h _ (List.getElem_mem hkl) _ (List.getElem_mem (show j < Ls[k].length by omega))
              rw [← ni_get] at h2; omega
            rw [hiVal, hcode, if_neg hne, if_neg (by omega)]
            simp (disch := first | assumption | omega | (simp only [lenS]; first | done | omega)) [seven, hj2, hix, hu, ix, gx, c1, c2]
          · have hp3 : ∀ i, i < j + 1 → 0 ≤ ni Ls[k] i ∧ ni Ls[k] i < (m : Int) := fun i hi => by
              by_cases e : i = j
              · subst e; omega
              · exact hp2 i (by omega)
            simp (disch := first | assumption | omega | (simp only [lenS]; first | done | omega)) [seven, hj2, hix, hu, ix, gx, c1, c2, wj]
            exact hp3
      · intro hp2
        have hin : InM m Ls[k] := fun a ha => by
          obtain ⟨i, hi, rfl⟩ := List.mem_iff_getElem.1 ha
          have := hp2 i (by omega)
          rwa [ni_get hi] at this
        have hB := dBytesOf d1 (by omega) hU (by omega) (by rw [hL]; omega) (inM_B le hin)
        have hq := hiB_len dd Ls[k]
        rw [hL] at hq
        have hp3 : ∀ j (h : j < Ls.length), j < k + 1 → InM m Ls[j] := fun j h hj => by
          by_cases e : j = k
          · subst e; exact hin
          · exact hp' j h (by omega)
        generalize hiB dd Ls[k] = B at *
        have hb1 : ((T.length : Int) + (B.length : Int)) * 1 ≤ 140737488355328 := by omega
        simp (disch := first | assumption | omega | (simp only [lenS]; first | done | omega)) [seven, hix, hu, hB, hpw, wk, hb1]
        exact hp3
    · intro hp'
      have hR : ∀ L ∈ Ls, InM m L := fun L hL => by
        obtain ⟨j, hj, rfl⟩ := List.mem_iff_getElem.1 hL
        exact hp' j hj (by omega)
      rw [hiVal, hcode, if_pos hR, if_pos rfl, ← hKl, List.take_length]
      generalize hiA dd Ls = T at *
      simp (disch := first | assumption | omega | (simp only [lenS]; first | done | omega)) [seven, hKl]
  · have hc : hiCode K m Ls = 102 := if_neg a1
    rw [hiVal, hc, if_neg (by omega)]
    simp (disch := first | assumption | omega | (simp only [lenS]; first | done | omega)) [A21, DsaSets, n0, n2, n3, nt, hp, h27, ls, hLo, a1]
end Zab.YtbmhaamjajoggaaDoorB
