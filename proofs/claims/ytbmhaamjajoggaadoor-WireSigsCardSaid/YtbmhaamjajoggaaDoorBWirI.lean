/- Signatures out of bytes: the program's function. -/
import Derived.Test.YtbmhaamjajoggaaDoorZabY
import Derived.Test.YtbmhaamjajoggaaDoorBWirF
import Derived.Test.YtbmhaamjajoggaaDoorBWirH
namespace Zab.YtbmhaamjajoggaaDoorB
open Go
open Go.IntWalk (i64_in)
set_option maxRecDepth 100000
set_option linter.unusedSimpArgs false
set_option linter.unusedVariables false
attribute [-simp] getElem?_pos

theorem pSz9 {n : Nat} (h : n < 3) : ∃ a b : Int, FF tab 36 [.i .i64 n] = some ⟨.tp [.i .i64 a, .i .i64 b, .i .i64 (sigN n : Nat)], []⟩ := by
  have : n = 0 ∨ n = 1 ∨ n = 2 := by omega
  rcases this with rfl | rfl | rfl
  · exact ⟨_, _, Sizes0⟩
  · exact ⟨_, _, Sizes1⟩
  · exact ⟨_, _, Sizes2⟩
theorem dSz9 {n : Nat} (h : n < 3) : ∃ a b : Int, FF tab 53 [.i .i64 n] = some ⟨.tp [.i .i64 a, .i .i64 b, .i .i64 (sigN n : Nat)], []⟩ := by
  have : n = 0 ∨ n = 1 ∨ n = 2 := by omega
  rcases this with rfl | rfl | rfl
  · exact ⟨_, _, fSizes0⟩
  · exact ⟨_, _, fSizes1⟩
  · exact ⟨_, _, fSizes2⟩
/-- What is behind the vectors. -/
def rest (c L d : Nat) (Y : List Int) : List Int := (Y.drop c).drop (L * (32 * d))
open Classical in
noncomputable def rdCode (n K L om c d : Nat) (Y : List Int) : Nat := if Y.length = sigN n then (if okR (rest c L d Y) om K then 0 else 104) else 102
noncomputable def rdOut (K L om c : Nat) (g : Int) (d : Nat) (Y : List Int) : List AV := [.sl (nums .u8 (Y.take c)) c, .sl (vecs .i64 (opA g d L (Y.drop c))) L, .sl (hins (hinR (rest c L d Y) om K)) K]
noncomputable def rdVal (n K L om c : Nat) (g : Int) (d : Nat) (Y : List Int) : List AV := if rdCode n K L om c d Y = 0 then rdOut K L om c g d Y else [.z, .z, .z]
theorem rdCode_is (n K L om c d : Nat) (Y : List Int) : Code (rdCode n K L om c d Y) := by
  unfold rdCode Code; split
  · split <;> simp
  · simp
theorem okG {g : Int} {d : Nat} (h : g = 131072 ∧ d = 18 ∨ g = 524288 ∧ d = 20) : ((2 ^ d : Nat) : Int) ≤ g - 1 + g + 1 := by
  rcases h with ⟨rfl, rfl⟩ | ⟨rfl, rfl⟩ <;> decide
set_option maxHeartbeats 16000000 in
theorem pReadSig {n K L om c : Nat} {e t b g g2 : Int} {d : Nat} (S : Set9 n K L om c e t b g g2 d) {x : AV} {Y : List Int} (hx : IsL .u8 x Y) (hI : ∀ y ∈ Y, inK .u8 y) (hl : Y.length ≤ 5000) :
    FF tab 12 [.i .i64 n, x] = some ⟨.tp [.ag (rdVal n K L om c g d Y), errV (rdCode n K L om c d Y)], []⟩ := by
  refine call_by (A := A12) rfl rfl ?_
  obtain ⟨hn, eq, K1, K8, L1, L8, om1, om80, c1, c64, gd, g2d, sz⟩ := S
  have fx := hx.flat
  have lx := lenV_isL hx
  have ho := wOfI hn
  rw [eq] at ho
  obtain ⟨q1, q2⟩ := quo4 c c64
  obtain ⟨za, zb, hz⟩ := pSz9 hn
  unfold seven at ho
  by_cases a1 : (Y.length : Int) = ((sigN n : Nat) : Int)
  · have a1' : Y.length = sigN n := by omega
    have hxe : x = .sl (nums .u8 Y) Y.length := by rcases hx with h | ⟨_, h⟩; exact h; rw [h] at a1'; simp at a1'; omega
    have k1 := cutL (D := Y) (s := c) (by omega)
    have k2 := cutR (D := Y) (s := c) (by omega)
    rw [← hxe] at k1 k2
    have tl : (Y.take c).length = c := by rw [List.length_take]; omega
    have hCl := pClone (L := Y.take c) (by omega) (by omega)
    rw [tl] at hCl
    have dl : (Y.drop c).length = L * (32 * d) + (om + K) := by rw [List.length_drop]; omega
    have hOp := pOpened (bndG gd) (okG gd) (n := L) (by omega) (L := Y.drop c) (in_drop hI c) (by omega) (by omega)
    have rl : (rest c L d Y).length = om + K := by unfold rest; rw [List.length_drop, dl]; omega
    have hRd := pReadHints (K := K) (om := om) (b := L) (c := e) (d := t) (e := b) (f := g) (g := g2) (st := 4 * (c : Int)) (Y := rest c L d Y) K1 (by omega) (by omega) (in_drop (in_drop hI c) _) rl
    rw [show (Y.drop c).drop (L * (32 * d)) = rest c L d Y from rfl] at hOp
    have wg : IntKind.i64.wrap (g - 1) = g - 1 := i64_in _ (by omega)
    unfold seven at hRd
    by_cases a2 : okR (rest c L d Y) om K
    · have hc : rdCode n K L om c d Y = 0 := by unfold rdCode; rw [if_pos a1', if_pos a2]
      rw [rdVal, hc, if_pos rfl, e0, rdOut]
      rw [if_pos a2] at hRd
      rw [← a1] at hz
      clear hxe dl tl
      generalize nums .u8 (rest c L d Y) = R at *
      generalize (rest c L d Y).length = rn at *
      generalize hins (hinR (rest c L d Y) om K) = Hc at *
      generalize vecs .i64 (opA g d L (Y.drop c)) = V at *
      generalize nums .u8 (Y.drop c) = Yd at *
      generalize (Y.drop c).length = yn at *
      generalize nums .u8 (Y.take c) = Yt at *
      simp (disch := first | assumption | omega | (simp only [lenS]; first | done | omega)) [A12, ho, lx, q1, q2, hz, k1, k2, hCl, hOp, hRd, wg]
    · have hc : rdCode n K L om c d Y = 104 := by unfold rdCode; rw [if_pos a1', if_neg a2]
      rw [rdVal, hc, if_neg (by omega), e104]
      rw [if_neg a2] at hRd
      rw [← a1] at hz
      clear hxe dl tl
      generalize nums .u8 (rest c L d Y) = R at *
      generalize (rest c L d Y).length = rn at *
      generalize vecs .i64 (opA g d L (Y.drop c)) = V at *
      generalize nums .u8 (Y.drop c) = Yd at *
      generalize (Y.drop c).length = yn at *
      generalize nums .u8 (Y.take c) = Yt at *
      simp (disch := first | assumption | omega | (simp only [lenS]; first | done | omega)) [A12, ho, lx, q1, q2, hz, k1, k2, hCl, hOp, hRd, wg]
  · have hc : rdCode n K L om c d Y = 102 := if_neg fun h => a1 (by rw [h])
    rw [rdVal, hc, if_neg (by omega), e102]
    generalize ((sigN n : Nat) : Int) = sn at *
    simp (disch := first | assumption | omega | (simp only [lenS]; first | done | omega)) [A12, ho, lx, hz, a1]
end Zab.YtbmhaamjajoggaaDoorB
