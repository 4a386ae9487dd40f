/- The chapter's example: a ball of 39 out of one byte. -/
import Derived.Test.YtngoidkconngmaaDoorZabY
import Derived.Test.YtngoidkconngmaaDoorGDrawB
import Derived.KernelRfl
namespace Zab.YtngoidkconngmaaDoorG
open Go
open Go.IntWalk (i64_in)
set_option maxRecDepth 100000
set_option linter.unusedSimpArgs false
set_option linter.unusedVariables false
attribute [-simp] getElem?_pos

def oneW : List Ln := [7704041247972973204, 18231049647333290538, 8768380331376842103, 13436446621944877153, 9176342002715247452, 11600781211169289260, 9593396991488247067, 17279607321023098943, 3559089258325683718, 12898918518790898371, 7609881256752712134, 15138901109389812841, 3392471404433953416, 4282117185809309512, 16179841881209917158, 9182813213203721478, 13105509739020820481, 10242117288148285071, 17812845497590674688, 16865837540867663321, 8831356892873363074, 1343104897052068286, 7046818621455119677, 3484488211901132558, 14181154600711508928]
def oneB : List Int := [148, 218, 98, 128, 178, 64, 234, 106, 42, 178, 207, 223, 15, 179, 1, 253, 119, 21, 61, 91, 116, 139, 175, 121, 97, 144, 133, 104, 3, 217, 119, 186, 92, 195, 86, 225, 110, 234, 88, 127, 44, 116, 197, 72, 12, 65, 254, 160, 27, 69, 245, 90, 188, 151, 34, 133, 63, 48, 210, 163, 78, 127, 205, 239, 6, 46, 105, 214, 210, 108, 100, 49, 195, 66, 61, 43, 13, 42, 2, 179, 198, 9, 166, 35, 175, 186, 155, 105, 105, 100, 242, 130, 89, 46, 24, 210, 136, 210, 244, 171, 196, 122, 20, 47, 72, 95, 194, 146, 228, 34, 109, 59, 230, 78, 129, 107, 119, 88, 138, 224, 6, 109, 197, 251, 246, 231, 111, 127, 1, 32, 194, 242, 171, 31, 224, 181]
def oneP (m : Nat) : Nat := ([8, 9, 10, 12, 13, 14, 16, 17, 18, 19, 20, 21, 22, 23, 24, 25, 26, 27, 28, 29, 30, 31, 32, 33, 34, 35, 36, 37, 38, 39, 40, 41, 42, 43, 44, 45, 47, 48, 49] : List Nat).getD m 0
theorem one_state : padS 136 31 (takeL 136 (zL 25, 0) [1]) = (oneW, 0) := by kernel_rfl
theorem one_bytes : outL 136 (oneW, 0) 136 = oneB := by kernel_rfl
theorem one_bt {k : Nat} (h : k < 136) : bt 136 (oneW, 0) k = ni oneB k := by
  rw [← one_bytes]
  have := bts_ni 136 (oneW, 0) 0 136 h
  rw [Nat.zero_add] at this
  rw [← this, ← bts_outL]; rfl
theorem one_p : ∀ m, m < 39 → bq oneP m ≤ oneP m ∧ oneP m < 136 ∧ ni oneB (oneP m) ≤ ((217 + m : Nat) : Int) ∧ ∀ k, k < 136 → bq oneP m ≤ k → k < oneP m → ((217 + m : Nat) : Int) < ni oneB k := by decide +kernel
theorem one_cnt : cnt (bo (ni oneB) (sgn (ni oneB) 8) 39 oneP 39) 256 = 39 := by decide +kernel
theorem one_isJ : ∀ m, m < 39 → IsJ (bt 136 (oneW, 0)) (256 - 39 + m) (bq oneP m) (oneP m) := by
  intro m hm
  obtain ⟨h1, h2, h3, h4⟩ := one_p m hm
  refine ⟨h1, by rw [one_bt h2]; exact h3, fun k p q => ?_⟩
  rw [one_bt (by omega)]
  exact h4 k (by omega) p q
theorem sgn_congr {f g : Nat → Int} : ∀ m, (∀ k, k < m → f k = g k) → sgn f m = sgn g m
  | 0, _ => rfl
  | m + 1, h => by rw [sgn, sgn, sgn_congr m (fun k hk => h k (by omega)), h m (by omega)]
theorem bo_congr {f g : Nat → Int} (w : Ln) (tau : Nat) (p : Nat → Nat) : ∀ m, (∀ k, k < m → f (p k) = g (p k)) → bo f w tau p m = bo g w tau p m
  | 0, _ => rfl
  | m + 1, h => by rw [bo, bo, bo_congr w tau p m (fun k hk => h k (by omega)), h m (by omega)]
theorem one_bo : bo (bt 136 (oneW, 0)) (sgn (bt 136 (oneW, 0)) 8) 39 oneP 39 = bo (ni oneB) (sgn (ni oneB) 8) 39 oneP 39 := by
  rw [sgn_congr 8 (fun k hk => one_bt (by omega)), bo_congr _ _ _ 39 (fun k hk => one_bt (one_p k hk).2.1)]

theorem one_by : Bys [1] :=
  ⟨by
    intro y hy
    have : y = 1 := by simpa using hy
    subst this
    exact ⟨by show (0 : Int) ≤ 1; omega, by show (1 : Int) ≤ 255; omega⟩, by simp⟩
theorem first9 : FF tab 15 [] = some ⟨.b true, []⟩ := by
  refine call_by (A := A15) rfl rfl ?_
  have hB := pBall (x := .sl (nums .u8 [1]) 1) (L := [1]) (.inl rfl) one_by (tau := 39) (by omega) (by omega) (f := bt 136 (oneW, 0)) (by rw [one_state]) (p := oneP) one_isJ
  have hl := bo_len (bt 136 (oneW, 0)) (sgn (bt 136 (oneW, 0)) 8) 39 oneP 39
  have hw := weight (x := .sl (nums .i64 (bo (bt 136 (oneW, 0)) (sgn (bt 136 (oneW, 0)) 8) 39 oneP 39)) 256) (L := bo (bt 136 (oneW, 0)) (sgn (bt 136 (oneW, 0)) 8) 39 oneP 39) (.inl (by show _ = AV.sl _ _; rw [hl])) (by omega)
  rw [hl, one_bo, one_cnt] at hw
  rw [one_bo] at hB
  rw [one_bo] at hl
  generalize bo (ni oneB) (sgn (ni oneB) 8) 39 oneP 39 = O at *
  rw [show nums .u8 [1] = [.i .u8 1] from rfl, show ((39 : Nat) : Int) = 39 from rfl] at hB
  rw [show ((39 : Nat) : Int) = 39 from rfl] at hw
  simp (disch := first | assumption | omega | (simp only [List.length_cons, List.length_nil, List.length_set, List.length_append, List.length_replicate, List.length_map, List.length_range, List.length_take, List.length_drop, nums_length, bools_length, vecs_length]; first | done | omega)) [A15, hB, hw]
end Zab.YtngoidkconngmaaDoorG
