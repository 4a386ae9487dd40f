/- Lists that are the same; numbers that are there. -/
import Derived.Test.YtbmhaamjajoggaaDoorZabY
import Derived.Test.YtbmhaamjajoggaaDoorZabG6
import Derived.Test.YtbmhaamjajoggaaDoorBAbs
namespace Zab.YtbmhaamjajoggaaDoorB
open Go
open Go.IntWalk (i64_in)
set_option maxRecDepth 100000
set_option linter.unusedSimpArgs false
set_option linter.unusedVariables false
attribute [-simp] getElem?_pos

theorem ni_ext {L M : List Int} (h1 : L.length = M.length) (h : ∀ j, j < L.length → ni L j = ni M j) : L = M := by
  apply List.ext_getElem h1
  intro j p q
  have := h j p
  rwa [ni_get p, ni_get q] at this

theorem SameInts {x y : AV} {L M : List Int} (hx : IsL .i64 x L) (hy : IsL .i64 y M) (hs : L.length < 9223372036854775807) : FF tab 61 [x, y] = some ⟨.b (decide (L = M)), []⟩ := by
  refine call_by (A := A61) rfl rfl ?_
  have fx := hx.flat
  have fy := hy.flat
  have lx := lenV_isL hx
  have ly := lenV_isL hy
  by_cases hl : L.length = M.length
  · simp (disch := first | assumption | omega | (simp only [lenS]; first | done | omega)) [A61, lx, ly, hl]
    refine w_headsP L.length (fun k => ⟨[(5, .i .i64 k), (1, y), (0, x)], []⟩) (fun k => ∀ j, j < k → ni L j = ni M j) (by simp (disch := first | assumption | omega | (simp only [lenS]; first | done | omega)) []) (fun j h => by omega) ?_ ?_
    · intro k hk hp
      have w1 : IntKind.i64.wrap ((k : Int) + 1) = (k : Int) + 1 := i64_in _ (by omega)
      have hkn : (k : Int).toNat = k := Int.toNat_natCast _
      have hix := ixSV_isL hx (k' := .i64) (j := (k : Int)) (by omega) (by omega)
      have hiy := ixSV_isL hy (k' := .i64) (j := (k : Int)) (by omega) (by omega)
      rw [hkn] at hix hiy
      have hgx := nums_get (k := .i64) hk
      have hgy := nums_get (k := .i64) (L := M) (j := k) (by omega)
      have hlt : (k : Int) < (L.length : Int) := by omega
      generalize hT : (k : Int) = T at *
      by_cases he : ni L k = ni M k
      · simp (disch := first | assumption | omega | (simp only [lenS]; first | done | omega)) [lx, hix, hiy, hgx, hgy, he, w1, hT]
        intro j hj
        by_cases e : j = k
        · subst e; exact he
        · exact hp j (by omega)
      · have hne : ¬ L = M := fun h => he (by rw [h])
        simp (disch := first | assumption | omega | (simp only [lenS]; first | done | omega)) [lx, hix, hiy, hgx, hgy, he, hne, w1, hT]
    · intro hp
      have : L = M := ni_ext hl hp
      simp (disch := first | assumption | omega | (simp only [lenS]; first | done | omega)) [lx, this]
  · have hne : ¬ L = M := fun h => hl (by rw [h])
    have hl' : ¬ (L.length : Int) = (M.length : Int) := by omega
    simp (disch := first | assumption | omega | (simp only [lenS]; first | done | omega)) [A61, lx, ly, hl', hne]

end Zab.YtbmhaamjajoggaaDoorB
