/- The law of numbers drawn below both primes. -/
import Derived.Test.YtngoidkconngmaaDoorZabY
import Derived.Test.YtngoidkconngmaaDoorGDrawV
import Derived.Test.YtngoidkconngmaaDoorGDrawO
import Derived.Test.YtngoidkconngmaaDoorGSame
import Derived.Test.YtngoidkconngmaaDoorZabG7
namespace Zab.YtngoidkconngmaaDoorG
open Go
open Go.IntWalk (i64_in)
set_option maxRecDepth 100000
set_option linter.unusedSimpArgs false
set_option linter.unusedVariables false
attribute [-simp] getElem?_pos

theorem bytes_in {L : List Int} (h : ∀ y ∈ L, inK .u8 y) : ∀ y ∈ L, 0 ≤ y ∧ y < 256 := by
  intro y hy
  obtain ⟨a, b⟩ := h y hy
  have a' : 0 ≤ y := a
  have b' : y ≤ 255 := b
  omega
theorem uni_ends {L : List Int} (h : ∀ y ∈ L, inK .u8 y) (hl : L.length ≤ 102) : ∃ N, (uni (stF 168 L) N).length = 256 ∧ ∀ i, i < N → (uni (stF 168 L) i).length < 256 :=
  uni_end fun i => by
    obtain ⟨j, h1, h2, h3, h4⟩ := zeros3 (X := 31) (by omega) (by omega) (bytes_in h) hl i
    refine ⟨j, h1, ?_⟩
    show stF 168 L (3 * j) + 256 * (stF 168 L (3 * j + 1) % 16) < 3329
    unfold stF
    rw [h2, h3]; omega
theorem prm_ends {L : List Int} (h : ∀ y ∈ L, inK .u8 y) (hl : L.length ≤ 102) : ∃ N, (prm (stF 168 L) N).length = 256 ∧ ∀ i, i < N → (prm (stF 168 L) i).length < 256 :=
  prm_end fun i => by
    obtain ⟨j, h1, h2, h3, h4⟩ := zeros3 (X := 31) (by omega) (by omega) (bytes_in h) hl i
    refine ⟨j, h1, ?_⟩
    show stF 168 L (3 * j) + 256 * stF 168 L (3 * j + 1) + 65536 * (stF 168 L (3 * j + 2) % 128) < 8380417
    unfold stF
    rw [h2, h3, h4]; omega
theorem app_in {L M : List Int} (h : ∀ y ∈ L, inK .u8 y) (h2 : ∀ y ∈ M, inK .u8 y) : ∀ y ∈ L ++ M, inK .u8 y := by
  intro y hy
  rcases List.mem_append.1 hy with hy | hy
  · exact h y hy
  · exact h2 y hy

end Zab.YtngoidkconngmaaDoorG
