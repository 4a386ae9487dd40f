/- Numbers below a bound out of bits: both functions. -/
import Derived.Test.YtbmhaamjajoggaaDoorZabY
import Derived.Test.YtbmhaamjajoggaaDoorBPackO
namespace Zab.YtbmhaamjajoggaaDoorB
open Go
open Go.IntWalk (i64_in)
set_option maxRecDepth 100000
set_option linter.unusedSimpArgs false
set_option linter.unusedVariables false
attribute [-simp] getElem?_pos

theorem pFair {low high : Int} (l0 : 0 ≤ low) (l1 : low ≤ 8388608) (h0 : 0 ≤ high) (h1 : high ≤ 8388608) (hs : 0 < low + high) : FF tab 89 [.i .i64 low, .i .i64 high] = some ⟨.b true, []⟩ := by
  refine call_by (A := A89) rfl rfl ?_
  have w : IntKind.i64.wrap (low + high) = low + high := i64_in _ (by omega)
  simp (disch := first | assumption | omega | (simp only [lenS]; first | done | omega)) [A89, l0, l1, h0, h1, hs, w]
set_option maxHeartbeats 8000000 in
theorem pOpenS {low high : Int} (l0 : 0 ≤ low) (l1 : low ≤ 8388608) (h0 : 0 ≤ high) (h1 : high ≤ 8388608) (hs : 0 < low + high) {d n : Nat} (hW : FF tab 58 [.i .i64 (low + high)] = some ⟨.i .i64 d, []⟩)
    (d1 : 1 ≤ d) (d24 : d ≤ 24) (n1 : 1 ≤ n) (n4 : n ≤ 4096) {x : AV} {L : List Int} (hx : IsL .u8 x L) (hI : ∀ y ∈ L, inK .u8 y) (hl : 8 * L.length = d * n)
    (ok : ∀ i, i < n → ¬ high - (opn d (val L) i : Int) < -low) :
    FF tab 73 [.i .i64 low, .i .i64 high, .i .i64 n, x] = some ⟨.tp [.os (nums .i64 (sgnL high d (val L) n)) n 1, .nl], []⟩ := by
  refine call_by (A := A73) rfl rfl ?_
  have fx := hx.flat
  have hF := pFair l0 l1 h0 h1 hs
  have hO := pOpenB d1 d24 n1 n4 hx hI hl
  have w : IntKind.i64.wrap (low + high) = low + high := i64_in _ (by omega)
  have wn : IntKind.i64.wrap (-low) = -low := i64_in _ (by omega)
  have ol := fun i => opn_lt d (val L) i
  have hp3 := pow_le d24
  rw [show opnL d (val L) n = turnTo (fun i => high - (opn d (val L) i : Int)) (fun i => (opn d (val L) i : Int)) n 0 from (turnTo_zero _ _ _).symm] at hO
  rw [show sgnL high d (val L) n = turnTo (fun i => high - (opn d (val L) i : Int)) (fun i => (opn d (val L) i : Int)) n n from (turnTo_all _ _ _).symm]
  have tl := turnTo_len (fun i => high - (opn d (val L) i : Int)) (fun i => (opn d (val L) i : Int)) n
  simp (disch := first | assumption | omega | (simp only [lenS]; first | done | omega)) [A73, hF, hW, hO, w, tl]
  refine w_heads n (fun i => ⟨[(34, .i .i64 i), (33, .i .i64 n), (32, .rs 1026 0 n 1), (10, .rs 1026 0 n 1), (1, .i .i64 high), (0, .i .i64 low)], [(1026, nums .i64 (turnTo (fun i => high - (opn d (val L) i : Int)) (fun i => (opn d (val L) i : Int)) n i))]⟩) (by simp (disch := first | assumption | omega | (simp only [lenS]; first | done | omega)) []) ?_ ?_
  · intro i hi
    have hin : (i : Int) < n := by omega
    have tn : (i : Int).toNat = i := Int.toNat_natCast _
    have wi : IntKind.i64.wrap ((i : Int) + 1) = (i : Int) + 1 := i64_in _ (by omega)
    have l := ol i
    have o := ok i hi
    have t0 := tl i
    have t1 := tl (i + 1)
    have g0 := nums_get (k := .i64) (L := turnTo (fun i => high - (opn d (val L) i : Int)) (fun i => (opn d (val L) i : Int)) n i) (j := i) (by omega)
    rw [turnTo_ni _ _ hi (Nat.le_refl i)] at g0
    have g1 := nums_get (k := .i64) (L := turnTo (fun i => high - (opn d (val L) i : Int)) (fun i => (opn d (val L) i : Int)) n (i + 1)) (j := i) (by omega)
    rw [turnTo_now _ _ hi] at g1
    have st := turnTo_set (fun i => high - (opn d (val L) i : Int)) (fun i => (opn d (val L) i : Int)) hi
    generalize turnTo (fun i => high - (opn d (val L) i : Int)) (fun i => (opn d (val L) i : Int)) n (i + 1) = T1 at *
    generalize turnTo (fun i => high - (opn d (val L) i : Int)) (fun i => (opn d (val L) i : Int)) n i = T0 at *
    obtain ⟨G, hG⟩ : ∃ G : Int, G = high - (opn d (val L) i : Int) := ⟨_, rfl⟩
    have ws : IntKind.i64.wrap (high - (opn d (val L) i : Int)) = G := by rw [hG]; exact i64_in _ (by omega)
    rw [← hG] at o g1 st
    clear hG
    generalize ((opn d (val L) i : Nat) : Int) = y at *
    simp (disch := first | assumption | omega | (simp only [lenS]; first | done | omega)) [hin, tn, wi, o, wn, t0, t1, g0, g1, st, ws]
  · have t0 := tl n
    generalize turnTo (fun i => high - (opn d (val L) i : Int)) (fun i => (opn d (val L) i : Int)) n n = T0 at *
    simp (disch := first | assumption | omega | (simp only [lenS]; first | done | omega)) [t0]
theorem dEnds {low high : Int} (l0 : 0 ≤ low) (l1 : low ≤ 8388608) (h0 : 0 ≤ high) (h1 : high ≤ 8388608) (hs : 0 < low + high) : FF tab 94 [.i .i64 low, .i .i64 high] = some ⟨.b true, []⟩ := by
  refine call_by (A := A94) rfl rfl ?_
  by_cases h : 0 < low
  · simp (disch := first | assumption | omega | (simp only [lenS]; first | done | omega)) [A94, l0, l1, h0, h1, h]
  · have h2 : 0 < high := by omega
    simp (disch := first | assumption | omega | (simp only [lenS]; first | done | omega)) [A94, l0, l1, h0, h1, h, h2]
theorem dWidth {n : Int} {w : Nat} (w1 : w ≤ 62) (hi : n < 2 ^ w) (lo : ∀ j, j < w → (2 : Int) ^ j ≤ n) (n0 : 0 ≤ n) : FF tab 60 [.i .i64 n] = some ⟨.i .i64 w, []⟩ := by
  refine call_by (A := A60) rfl rfl ?_
  have hp : (2 : Int) ^ w = ((2 ^ w : Nat) : Int) := by simp
  have hpl := pow_le w1
  simp (disch := first | assumption | omega | (simp only [lenS]; first | done | omega)) [A60]
  refine w_heads w (fun j => ⟨[(3, .i .i64 j), (0, .i .i64 (n / 2 ^ j))], []⟩) (by simp (disch := first | assumption | omega | (simp only [lenS]; first | done | omega)) []) ?_ ?_
  · intro j hj
    have hl := lo j hj
    have hpos : (0 : Int) < 2 ^ j := by have : (0 : Nat) < 2 ^ j := Nat.pow_pos (by omega); have h2 : (2 : Int) ^ j = ((2 ^ j : Nat) : Int) := by simp
                                        omega
    have h0 : (1 : Int) ≤ n / 2 ^ j := (Int.le_ediv_iff_mul_le hpos).2 (by omega)
    have h1 : (0 : Int) < n / 2 ^ j := by omega
    have h2 : n / 2 ^ j ≤ n := Int.ediv_le_self _ n0
    have h3 : n / 2 ^ (j + 1) = n / 2 ^ j / 2 := by rw [Int.pow_succ, Int.ediv_ediv_of_nonneg (by omega)]
    have wj : IntKind.i64.wrap ((j : Int) + 1) = (j : Int) + 1 := i64_in _ (by omega)
    rw [h3]
    generalize n / 2 ^ j = m at *
    have td : m.tdiv 2 = m / 2 := Int.tdiv_eq_ediv_of_nonneg (by omega)
    have wd : IntKind.i64.wrap (m / 2) = m / 2 := i64_in _ (by omega)
    simp (disch := first | assumption | omega | (simp only [lenS]; first | done | omega)) [h1, wj, td, wd]
  · have h1 : n / 2 ^ w = 0 := Int.ediv_eq_zero_of_lt n0 hi
    rw [h1]
    simp (disch := first | assumption | omega | (simp only [lenS]; first | done | omega)) []
set_option maxHeartbeats 8000000 in
theorem dOpenS {low high : Int} (l0 : 0 ≤ low) (l1 : low ≤ 8388608) (h0 : 0 ≤ high) (h1 : high ≤ 8388608) (hs : 0 < low + high) {d n : Nat} (hW : FF tab 60 [.i .i64 (low + high)] = some ⟨.i .i64 d, []⟩)
    (d1 : 1 ≤ d) (d24 : d ≤ 24) (n1 : 1 ≤ n) (n4 : n ≤ 4096) {x : AV} {L : List Int} (hx : IsL .u8 x L) (hI : ∀ y ∈ L, inK .u8 y) (hl : 8 * L.length = d * n)
    (ok : ∀ i, i < n → ¬ high - (opn d (val L) i : Int) < -low) :
    FF tab 80 [.i .i64 low, .i .i64 high, .i .i64 n, x] = some ⟨.tp [.os (nums .i64 (sgnL high d (val L) n)) n 1, .i .i64 0], []⟩ := by
  refine call_by (A := A80) rfl rfl ?_
  have fx := hx.flat
  have hF := dEnds l0 l1 h0 h1 hs
  have hO := dOpenB d1 d24 n1 n4 hx hI hl
  have w : IntKind.i64.wrap (low + high) = low + high := i64_in _ (by omega)
  have wn : IntKind.i64.wrap (-low) = -low := i64_in _ (by omega)
  have ol := fun i => opn_lt d (val L) i
  have hp3 := pow_le d24
  have tl := opnL_len d (val L) n
  have hg := fun {i : Nat} (hi : i < n) => opnL_ni d (val L) hi
  generalize hOO : opnL d (val L) n = O at *
  simp (disch := first | assumption | omega | (simp only [lenS]; first | done | omega)) [A80, hF, hW, hO, w, tl]
  refine w_heads n (fun i => ⟨[(13, .i .i64 i), (12, .rs 12 0 (sgnL high d (val L) i).length 1), (10, .sl (nums .i64 O) n), (1, .i .i64 high), (0, .i .i64 low)], [(12, nums .i64 (sgnL high d (val L) i))]⟩) (by simp (disch := first | assumption | omega | (simp only [lenS]; first | done | omega)) [sgnL, nums_nil]) ?_ ?_
  · intro i hi
    have hin : (i : Int) < n := by omega
    have tn : (i : Int).toNat = i := Int.toNat_natCast _
    have wi : IntKind.i64.wrap ((i : Int) + 1) = (i : Int) + 1 := i64_in _ (by omega)
    have l := ol i
    have o := ok i hi
    have g0 := nums_get (k := .i64) (L := O) (j := i) (by omega)
    rw [hg hi] at g0
    obtain ⟨G, hG⟩ : ∃ G : Int, G = high - (opn d (val L) i : Int) := ⟨_, rfl⟩
    have ws : IntKind.i64.wrap (high - (opn d (val L) i : Int)) = G := by rw [hG]; exact i64_in _ (by omega)
    have sl := sgnL_len high d (val L) i
    have hb1 : (((sgnL high d (val L) i).length : Int) + 1) * 8 ≤ 140737488355328 := by omega
    rw [show sgnL high d (val L) (i + 1) = sgnL high d (val L) i ++ [high - (opn d (val L) i : Int)] from mapTo_succ _ _]
    generalize sgnL high d (val L) i = T0 at *
    rw [← hG] at o ⊢
    clear hG
    generalize ((opn d (val L) i : Nat) : Int) = y at *
    simp (disch := first | assumption | omega | (simp only [lenS]; first | done | omega)) [hin, tn, wi, o, wn, g0, ws]
  · have sl := sgnL_len high d (val L) n
    generalize sgnL high d (val L) n = T0 at *
    simp (disch := first | assumption | omega | (simp only [lenS]; first | done | omega)) [sl]
def lenTab : ByteArray := ⟨#[0, 1, 2, 2, 3, 3, 3, 3, 4, 4, 4, 4, 4, 4, 4, 4, 5, 5, 5, 5, 5, 5, 5, 5, 5, 5, 5, 5, 5, 5, 5, 5, 6, 6, 6, 6, 6, 6, 6, 6, 6, 6, 6, 6, 6, 6, 6, 6, 6, 6, 6, 6, 6, 6, 6, 6, 6, 6, 6, 6, 6, 6, 6, 6, 7, 7, 7, 7, 7, 7, 7, 7, 7, 7, 7, 7, 7, 7, 7, 7, 7, 7, 7, 7, 7, 7, 7, 7, 7, 7, 7, 7, 7, 7, 7, 7, 7, 7, 7, 7, 7, 7, 7, 7, 7, 7, 7, 7, 7, 7, 7, 7, 7, 7, 7, 7, 7, 7, 7, 7, 7, 7, 7, 7, 7, 7, 7, 7, 8, 8, 8, 8, 8, 8, 8, 8, 8, 8, 8, 8, 8, 8, 8, 8, 8, 8, 8, 8, 8, 8, 8, 8, 8, 8, 8, 8, 8, 8, 8, 8, 8, 8, 8, 8, 8, 8, 8, 8, 8, 8, 8, 8, 8, 8, 8, 8, 8, 8, 8, 8, 8, 8, 8, 8, 8, 8, 8, 8, 8, 8, 8, 8, 8, 8, 8, 8, 8, 8, 8, 8, 8, 8, 8, 8, 8, 8, 8, 8, 8, 8, 8, 8, 8, 8, 8, 8, 8, 8, 8, 8, 8, 8, 8, 8, 8, 8, 8, 8, 8, 8, 8, 8, 8, 8, 8, 8, 8, 8, 8, 8, 8, 8, 8, 8, 8, 8, 8, 8, 8, 8, 8, 8, 8, 8, 8, 8]⟩
def len8 (k : Nat) : Nat := if k = 0 then 0 else Nat.log2 k + 1
theorem lenTab_all : ∀ k, k < 256 → lenTab[k]? = some (UInt8.ofNat (len8 k)) ∧ (UInt8.ofNat (len8 k)).toNat = len8 k ∧ len8 k ≤ 8 := by decide +kernel
/-- How many bits a number has. -/
def lenN (n : Nat) : Nat := if n < 256 then len8 n else if n < 65536 then 8 + len8 (n / 256) else 16 + len8 (n / 65536)
theorem pLen64 {n : Nat} (hn : n < 16777216) : FF tab 96 [.i .u64 n] = some ⟨.i .i64 (lenN n), []⟩ := by
  refine call_by (A := A96) rfl rfl ?_
  have c1 : ¬ (4294967296 : Int) ≤ n := by omega
  by_cases h1 : n < 256
  · have c2 : ¬ (65536 : Int) ≤ n := by omega
    have c3 : ¬ (256 : Int) ≤ n := by omega
    obtain ⟨ht, h2, h3⟩ := lenTab_all n h1
    have e : lenN n = len8 n := if_pos h1
    rw [e]
    have tn : (n : Int).toNat = n := Int.toNat_natCast _
    have w1 : IntKind.u8.wrap (n : Int) = n := u8_nat h1
    have w2 : IntKind.i64.wrap (len8 n : Int) = len8 n := i64_in _ (by omega)
    unfold lenTab at ht
    generalize UInt8.ofNat (len8 n) = y at *
    generalize len8 n = l at *
    simp (disch := first | assumption | omega | (simp only [lenS]; first | done | omega)) [A96, c1, c2, c3, ht, h2, tn, w1, w2]
  · by_cases h4 : n < 65536
    · have c2 : ¬ (65536 : Int) ≤ n := by omega
      have c3 : (256 : Int) ≤ n := by omega
      obtain ⟨ht, h2, h3⟩ := lenTab_all (n / 256) (by omega)
      have e : lenN n = 8 + len8 (n / 256) := by unfold lenN; rw [if_neg h1, if_pos h4]
      rw [e]
      have sh := shr_at (k := .u64) (a := n) (d := 8) (by show 8 ≤ 64; omega)
      rw [show n / 2 ^ 8 = n / 256 from rfl, show ((8 : Nat) : Int) = 8 from rfl] at sh
      have tn : ((n / 256 : Nat) : Int).toNat = n / 256 := Int.toNat_natCast _
      have p0 : (0 : Int) ≤ ((n / 256 : Nat) : Int) := by omega
      have w1 : IntKind.u8.wrap ((n / 256 : Nat) : Int) = ((n / 256 : Nat) : Int) := u8_nat (by omega)
      have w2 : IntKind.i64.wrap (len8 (n / 256) : Int) = len8 (n / 256) := i64_in _ (by omega)
      have w3 : IntKind.i64.wrap (8 + (len8 (n / 256) : Int)) = 8 + (len8 (n / 256) : Int) := i64_in _ (by omega)
      unfold lenTab at ht
      generalize UInt8.ofNat (len8 (n / 256)) = y at *
      generalize len8 (n / 256) = l at *
      generalize hm : n / 256 = m at *
      generalize hM : (m : Int) = M at *
      simp (disch := first | assumption | omega | (simp only [lenS]; first | done | omega)) [A96, c1, c2, c3, ht, h2, sh, tn, p0, w1, w2, w3, show IntKind.i64.wrap 8 = 8 from rfl, -shiftV_shr]
    · have c2 : (65536 : Int) ≤ n := by omega
      obtain ⟨ht, h2, h3⟩ := lenTab_all (n / 65536) (by omega)
      have e : lenN n = 16 + len8 (n / 65536) := by unfold lenN; rw [if_neg h1, if_neg h4]
      rw [e]
      have sh := shr_at (k := .u64) (a := n) (d := 16) (by show 16 ≤ 64; omega)
      rw [show n / 2 ^ 16 = n / 65536 from rfl, show ((16 : Nat) : Int) = 16 from rfl] at sh
      have c3 : ¬ (256 : Int) ≤ ((n / 65536 : Nat) : Int) := by omega
      have tn : ((n / 65536 : Nat) : Int).toNat = n / 65536 := Int.toNat_natCast _
      have p0 : (0 : Int) ≤ ((n / 65536 : Nat) : Int) := by omega
      have w1 : IntKind.u8.wrap ((n / 65536 : Nat) : Int) = ((n / 65536 : Nat) : Int) := u8_nat (by omega)
      have w2 : IntKind.i64.wrap (len8 (n / 65536) : Int) = len8 (n / 65536) := i64_in _ (by omega)
      have w3 : IntKind.i64.wrap (16 + (len8 (n / 65536) : Int)) = 16 + (len8 (n / 65536) : Int) := i64_in _ (by omega)
      unfold lenTab at ht
      generalize UInt8.ofNat (len8 (n / 65536)) = y at *
      generalize len8 (n / 65536) = l at *
      generalize hm : n / 65536 = m at *
      generalize hM : (m : Int) = M at *
      simp (disch := first | assumption | omega | (simp only [lenS]; first | done | omega)) [A96, c1, c2, c3, ht, h2, sh, tn, p0, w1, w2, w3, show IntKind.i64.wrap 16 = 16 from rfl, -shiftV_shr]
theorem pWidthN {n : Nat} (hn : n < 16777216) : FF tab 58 [.i .i64 n] = some ⟨.i .i64 (lenN n), []⟩ := by
  have h2 : FF tab 82 [.i .u64 n] = some ⟨.i .i64 (lenN n), []⟩ := by
    refine call_by (A := A82) rfl rfl ?_
    simp (disch := first | assumption | omega | (simp only [lenS]; first | done | omega)) [A82, pLen64 hn]
  refine call_by (A := A58) rfl rfl ?_
  have w : IntKind.u64.wrap (n : Int) = n := u64_nat (by omega)
  have m : ¬ (n : Int) < 0 := by omega
  generalize (n : Int) = N at *
  simp (disch := first | assumption | omega | (simp only [lenS]; first | done | omega)) [A58, h2, w, m, maxV]
theorem pWidth18 : FF tab 58 [.i .i64 262143] = some ⟨.i .i64 18, []⟩ := pWidthN (n := 262143) (by omega)
theorem pWidth20 : FF tab 58 [.i .i64 1048575] = some ⟨.i .i64 20, []⟩ := pWidthN (n := 1048575) (by omega)
end Zab.YtbmhaamjajoggaaDoorB
