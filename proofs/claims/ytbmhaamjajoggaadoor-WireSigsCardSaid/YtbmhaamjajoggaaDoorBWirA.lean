/- Lists of vectors, of hints: how many, how long; whether they are the same. -/
import Derived.Test.YtbmhaamjajoggaaDoorZabY
import Derived.Test.YtbmhaamjajoggaaDoorZabWir
import Derived.Test.YtbmhaamjajoggaaDoorBSame
import Derived.KernelRfl
namespace Zab.YtbmhaamjajoggaaDoorB
open Go
open Go.IntWalk (i64_in)
set_option maxRecDepth 100000
set_option linter.unusedSimpArgs false
set_option linter.unusedVariables false
attribute [-simp] getElem?_pos

theorem ixFH {x : AV} {xs : List AV} (ex : x = .sl xs xs.length ∨ (x = .z ∧ xs = [])) (hm : xs.length ≤ 1000000) {f : Nat} {p : Nat → Bool} (hp : ∀ k, k < xs.length → ∃ u, xs[k]? = some u ∧ u.flat = true ∧ FF tab f [u] = some ⟨.b (p k), []⟩) :
    ∃ r : Int, FF tab 71 [x, .fn f []] = some ⟨.i .i64 r, []⟩ ∧ (0 ≤ r ↔ ∃ k, k < xs.length ∧ p k = true) := by
  have fx := flat_ex ex
  have lx := lenV_ex ex
  have main : ∀ m, (m = xs.length ∨ m < xs.length ∧ p m = true) → (∀ j, j < m → p j = false) → m ≤ xs.length → FF tab 71 [x, .fn f []] = some ⟨.i .i64 (if m < xs.length then (m : Int) else -1), []⟩ := by
    intro m hmm hb hle
    refine call_by (A := A71) rfl rfl ?_
    simp (disch := first | assumption | omega | (simp only [lenS]; first | done | omega)) [A71, lx]
    refine w_heads m (fun k => ⟨[(8, .i .i64 k), (7, .i .i64 xs.length), (1, .fn f []), (0, x)], []⟩) (by simp (disch := first | assumption | omega | (simp only [lenS]; first | done | omega)) []) ?_ ?_
    · intro k hk
      have w1 : IntKind.i64.wrap ((k : Int) + 1) = (k : Int) + 1 := i64_in _ (by omega)
      have hkn : (k : Int).toNat = k := Int.toNat_natCast _
      have hix := ixSV_ex ex (k := k) (by omega)
      obtain ⟨u, hu, fu, hf⟩ := hp k (by omega)
      have hlt : (k : Int) < (xs.length : Int) := by omega
      rw [hb k hk] at hf
      simp (disch := first | assumption | omega | (simp only [lenS]; first | done | omega)) [hlt, hix, hu, hf, w1]
    · rcases hmm with rfl | ⟨h1, h2⟩
      · rw [if_neg (by omega)]
        simp (disch := first | assumption | omega | (simp only [lenS]; first | done | omega)) []
      · rw [if_pos h1]
        have hix := ixSV_ex ex (k := m) h1
        obtain ⟨u, hu, fu, hf⟩ := hp m h1
        have hlt : (m : Int) < (xs.length : Int) := by omega
        rw [h2] at hf
        simp (disch := first | assumption | omega | (simp only [lenS]; first | done | omega)) [hlt, hix, hu, hf]
  rcases first_bad (p := fun j => p j = false) xs.length with h | ⟨k, hk, h1, h2⟩
  · refine ⟨_, main xs.length (.inl rfl) h (Nat.le_refl _), ?_⟩
    rw [if_neg (by omega)]
    constructor
    · intro h; omega
    · rintro ⟨k, hk, e⟩; rw [h k hk] at e; cases e
  · have hk1 : p k = true := by simpa using h1
    refine ⟨_, main k (.inr ⟨hk, hk1⟩) h2 (by omega), ?_⟩
    rw [if_pos hk]
    exact ⟨fun _ => ⟨k, hk, hk1⟩, fun _ => by omega⟩
theorem cFH {x : AV} {xs : List AV} (ex : x = .sl xs xs.length ∨ (x = .z ∧ xs = [])) (hm : xs.length ≤ 1000000) {f : Nat} {p : Nat → Bool} (hp : ∀ k, k < xs.length → ∃ u, xs[k]? = some u ∧ u.flat = true ∧ FF tab f [u] = some ⟨.b (p k), []⟩) :
    ∃ t, FF tab 40 [x, .fn f []] = some ⟨.b t, []⟩ ∧ (t = true ↔ ∃ k, k < xs.length ∧ p k = true) := by
  have fx := flat_ex ex
  obtain ⟨r, h1, h2⟩ := ixFH ex hm hp
  refine ⟨decide (0 ≤ r), ?_, by rw [decide_eq_true_iff]; exact h2⟩
  refine call_by (A := A40) rfl rfl ?_
  simp (disch := first | assumption | omega | (simp only [lenS]; first | done | omega)) [A40, h1]
theorem ixFV {x : AV} {xs : List AV} (ex : x = .sl xs xs.length ∨ (x = .z ∧ xs = [])) (hm : xs.length ≤ 1000000) {f : Nat} {p : Nat → Bool} (hp : ∀ k, k < xs.length → ∃ u, xs[k]? = some u ∧ u.flat = true ∧ FF tab f [u] = some ⟨.b (p k), []⟩) :
    ∃ r : Int, FF tab 88 [x, .fn f []] = some ⟨.i .i64 r, []⟩ ∧ (0 ≤ r ↔ ∃ k, k < xs.length ∧ p k = true) := by
  have fx := flat_ex ex
  have lx := lenV_ex ex
  have main : ∀ m, (m = xs.length ∨ m < xs.length ∧ p m = true) → (∀ j, j < m → p j = false) → m ≤ xs.length → FF tab 88 [x, .fn f []] = some ⟨.i .i64 (if m < xs.length then (m : Int) else -1), []⟩ := by
    intro m hmm hb hle
    refine call_by (A := A88) rfl rfl ?_
    simp (disch := first | assumption | omega | (simp only [lenS]; first | done | omega)) [A88, lx]
    refine w_heads m (fun k => ⟨[(8, .i .i64 k), (7, .i .i64 xs.length), (1, .fn f []), (0, x)], []⟩) (by simp (disch := first | assumption | omega | (simp only [lenS]; first | done | omega)) []) ?_ ?_
    · intro k hk
      have w1 : IntKind.i64.wrap ((k : Int) + 1) = (k : Int) + 1 := i64_in _ (by omega)
      have hkn : (k : Int).toNat = k := Int.toNat_natCast _
      have hix := ixSV_ex ex (k := k) (by omega)
      obtain ⟨u, hu, fu, hf⟩ := hp k (by omega)
      have hlt : (k : Int) < (xs.length : Int) := by omega
      rw [hb k hk] at hf
      simp (disch := first | assumption | omega | (simp only [lenS]; first | done | omega)) [hlt, hix, hu, hf, w1]
    · rcases hmm with rfl | ⟨h1, h2⟩
      · rw [if_neg (by omega)]
        simp (disch := first | assumption | omega | (simp only [lenS]; first | done | omega)) []
      · rw [if_pos h1]
        have hix := ixSV_ex ex (k := m) h1
        obtain ⟨u, hu, fu, hf⟩ := hp m h1
        have hlt : (m : Int) < (xs.length : Int) := by omega
        rw [h2] at hf
        simp (disch := first | assumption | omega | (simp only [lenS]; first | done | omega)) [hlt, hix, hu, hf]
  rcases first_bad (p := fun j => p j = false) xs.length with h | ⟨k, hk, h1, h2⟩
  · refine ⟨_, main xs.length (.inl rfl) h (Nat.le_refl _), ?_⟩
    rw [if_neg (by omega)]
    constructor
    · intro h; omega
    · rintro ⟨k, hk, e⟩; rw [h k hk] at e; cases e
  · have hk1 : p k = true := by simpa using h1
    refine ⟨_, main k (.inr ⟨hk, hk1⟩) h2 (by omega), ?_⟩
    rw [if_pos hk]
    exact ⟨fun _ => ⟨k, hk, hk1⟩, fun _ => by omega⟩
theorem cFV {x : AV} {xs : List AV} (ex : x = .sl xs xs.length ∨ (x = .z ∧ xs = [])) (hm : xs.length ≤ 1000000) {f : Nat} {p : Nat → Bool} (hp : ∀ k, k < xs.length → ∃ u, xs[k]? = some u ∧ u.flat = true ∧ FF tab f [u] = some ⟨.b (p k), []⟩) :
    ∃ t, FF tab 69 [x, .fn f []] = some ⟨.b t, []⟩ ∧ (t = true ↔ ∃ k, k < xs.length ∧ p k = true) := by
  have fx := flat_ex ex
  obtain ⟨r, h1, h2⟩ := ixFV ex hm hp
  refine ⟨decide (0 ≤ r), ?_, by rw [decide_eq_true_iff]; exact h2⟩
  refine call_by (A := A69) rfl rfl ?_
  simp (disch := first | assumption | omega | (simp only [lenS]; first | done | omega)) [A69, h1]
theorem ixFB {x : AV} {xs : List AV} (ex : x = .sl xs xs.length ∨ (x = .z ∧ xs = [])) (hm : xs.length ≤ 1000000) {f : Nat} {p : Nat → Bool} (hp : ∀ k, k < xs.length → ∃ u, xs[k]? = some u ∧ u.flat = true ∧ FF tab f [u] = some ⟨.b (p k), []⟩) :
    ∃ r : Int, FF tab 90 [x, .fn f []] = some ⟨.i .i64 r, []⟩ ∧ (0 ≤ r ↔ ∃ k, k < xs.length ∧ p k = true) := by
  have fx := flat_ex ex
  have lx := lenV_ex ex
  have main : ∀ m, (m = xs.length ∨ m < xs.length ∧ p m = true) → (∀ j, j < m → p j = false) → m ≤ xs.length → FF tab 90 [x, .fn f []] = some ⟨.i .i64 (if m < xs.length then (m : Int) else -1), []⟩ := by
    intro m hmm hb hle
    refine call_by (A := A90) rfl rfl ?_
    simp (disch := first | assumption | omega | (simp only [lenS]; first | done | omega)) [A90, lx]
    refine w_heads m (fun k => ⟨[(8, .i .i64 k), (7, .i .i64 xs.length), (1, .fn f []), (0, x)], []⟩) (by simp (disch := first | assumption | omega | (simp only [lenS]; first | done | omega)) []) ?_ ?_
    · intro k hk
      have w1 : IntKind.i64.wrap ((k : Int) + 1) = (k : Int) + 1 := i64_in _ (by omega)
      have hkn : (k : Int).toNat = k := Int.toNat_natCast _
      have hix := ixSV_ex ex (k := k) (by omega)
      obtain ⟨u, hu, fu, hf⟩ := hp k (by omega)
      have hlt : (k : Int) < (xs.length : Int) := by omega
      rw [hb k hk] at hf
      simp (disch := first | assumption | omega | (simp only [lenS]; first | done | omega)) [hlt, hix, hu, hf, w1]
    · rcases hmm with rfl | ⟨h1, h2⟩
      · rw [if_neg (by omega)]
        simp (disch := first | assumption | omega | (simp only [lenS]; first | done | omega)) []
      · rw [if_pos h1]
        have hix := ixSV_ex ex (k := m) h1
        obtain ⟨u, hu, fu, hf⟩ := hp m h1
        have hlt : (m : Int) < (xs.length : Int) := by omega
        rw [h2] at hf
        simp (disch := first | assumption | omega | (simp only [lenS]; first | done | omega)) [hlt, hix, hu, hf]
  rcases first_bad (p := fun j => p j = false) xs.length with h | ⟨k, hk, h1, h2⟩
  · refine ⟨_, main xs.length (.inl rfl) h (Nat.le_refl _), ?_⟩
    rw [if_neg (by omega)]
    constructor
    · intro h; omega
    · rintro ⟨k, hk, e⟩; rw [h k hk] at e; cases e
  · have hk1 : p k = true := by simpa using h1
    refine ⟨_, main k (.inr ⟨hk, hk1⟩) h2 (by omega), ?_⟩
    rw [if_pos hk]
    exact ⟨fun _ => ⟨k, hk, hk1⟩, fun _ => by omega⟩
theorem cFB {x : AV} {xs : List AV} (ex : x = .sl xs xs.length ∨ (x = .z ∧ xs = [])) (hm : xs.length ≤ 1000000) {f : Nat} {p : Nat → Bool} (hp : ∀ k, k < xs.length → ∃ u, xs[k]? = some u ∧ u.flat = true ∧ FF tab f [u] = some ⟨.b (p k), []⟩) :
    ∃ t, FF tab 74 [x, .fn f []] = some ⟨.b t, []⟩ ∧ (t = true ↔ ∃ k, k < xs.length ∧ p k = true) := by
  have fx := flat_ex ex
  obtain ⟨r, h1, h2⟩ := ixFB ex hm hp
  refine ⟨decide (0 ≤ r), ?_, by rw [decide_eq_true_iff]; exact h2⟩
  refine call_by (A := A74) rfl rfl ?_
  simp (disch := first | assumption | omega | (simp only [lenS]; first | done | omega)) [A74, h1]
theorem len1V (u : AV) (n : Nat) (fu : u.flat = true) (lu : lenV u = some (.i .i64 n)) : FF tab 70 [u] = some ⟨.b (!decide ((n : Int) = 256)), []⟩ := by
  refine call_by (A := A70) rfl rfl ?_
  simp (disch := first | assumption | omega | (simp only [lenS]; first | done | omega)) [A70, lu]
theorem len1H (u : AV) (n : Nat) (fu : u.flat = true) (lu : lenV u = some (.i .i64 n)) : FF tab 41 [u] = some ⟨.b (!decide ((n : Int) = 256)), []⟩ := by
  refine call_by (A := A41) rfl rfl ?_
  simp (disch := first | assumption | omega | (simp only [lenS]; first | done | omega)) [A41, lu]
/-- So many, each as long as it has to be. -/
def Fit {α : Type} (n : Nat) (Ls : List (List α)) : Prop := Ls.length = n ∧ ∀ L ∈ Ls, L.length = 256
instance {α : Type} (n : Nat) (Ls : List (List α)) : Decidable (Fit n Ls) := inferInstanceAs (Decidable (_ ∧ _))
theorem not_all {α : Type} {Ls : List (List α)} (P : List α → Prop) : (¬ ∃ k, ∃ h : k < Ls.length, ¬ P Ls[k]) ↔ ∀ L ∈ Ls, P L := by
  constructor
  · intro h L hL
    obtain ⟨k, hk, rfl⟩ := List.mem_iff_getElem.1 hL
    exact Classical.byContradiction fun hn => h ⟨k, hk, hn⟩
  · rintro h ⟨k, hk, hn⟩
    exact hn (h _ (List.getElem_mem hk))
theorem long {n : Nat} (hn : n ≤ 100) {x : AV} {xs : List AV} {Ls : List (List Int)} (hv : IsW (IsL .i64) x xs Ls) (hm : Ls.length ≤ 1000000) : FF tab 39 [.i .i64 n, x] = some ⟨.b (decide (Fit n Ls)), []⟩ := by
  refine call_by (A := A39) rfl rfl ?_
  have fx := hv.flat
  have lx := hv.lenV
  obtain ⟨t, hc, ht⟩ := cFV hv.ex (by rw [hv.len]; exact hm) (f := 70) (p := fun k => !decide (((nv Ls k).length : Int) = 256)) (fun k hk => by
    rw [hv.len] at hk
    obtain ⟨u, h1, h2⟩ := hv.get hk
    have := len1V u Ls[k].length h2.flat (lenV_isL h2)
    rw [nv_get hk]
    exact ⟨u, h1, h2.flat, this⟩)
  have e : (¬ t = true) ↔ ∀ L ∈ Ls, L.length = 256 := by
    rw [ht, ← not_all, hv.len]
    refine not_congr ⟨?_, ?_⟩
    · rintro ⟨k, hk, h⟩
      refine ⟨k, hk, ?_⟩
      rw [nv_get hk] at h
      simp only [Bool.not_eq_true', decide_eq_false_iff_not] at h
      omega
    · rintro ⟨k, hk, h⟩
      refine ⟨k, hk, ?_⟩
      rw [nv_get hk]
      simp only [Bool.not_eq_true', decide_eq_false_iff_not]
      omega
  clear ht
  by_cases h1 : (Ls.length : Int) = (n : Int)
  · have h1' : Ls.length = n := by omega
    cases t with
    | true =>
      have hf : ¬ Fit n Ls := fun h => e.2 h.2 rfl
      simp (disch := first | assumption | omega | (simp only [lenS]; first | done | omega)) [A39, lx, h1, hc, hf]
    | false =>
      have hf : Fit n Ls := ⟨h1', e.1 (by simp)⟩
      simp (disch := first | assumption | omega | (simp only [lenS]; first | done | omega)) [A39, lx, h1, hc, hf]
  · have hf : ¬ Fit n Ls := fun h => h1 (by rw [h.1])
    simp (disch := first | assumption | omega | (simp only [lenS]; first | done | omega)) [A39, lx, h1, hf]
theorem vectors {n : Nat} (hn : n ≤ 100) {x : AV} {xs : List AV} {Ls : List (List Int)} (hv : IsW (IsL .i64) x xs Ls) : FF tab 50 [x, .i .i64 n] = some ⟨.b (decide (Fit n Ls)), []⟩ := by
  refine call_by (A := A50) rfl rfl ?_
  have fx := hv.flat
  have lx := hv.lenV
  by_cases h1 : (Ls.length : Int) = (n : Int)
  · have h1' : Ls.length = n := by omega
    simp (disch := first | assumption | omega | (simp only [lenS]; first | done | omega)) [A50, lx, h1]
    refine w_headsP n (fun k => ⟨[(5, .i .i64 k), (1, .i .i64 n), (0, x)], []⟩) (fun k => ∀ j (h : j < Ls.length), j < k → Ls[j].length = 256) (by simp (disch := first | assumption | omega | (simp only [lenS]; first | done | omega)) []) (fun j _ h => by omega) ?_ ?_
    · intro k hk hp
      have w1 : IntKind.i64.wrap ((k : Int) + 1) = (k : Int) + 1 := i64_in _ (by omega)
      have hkl : k < Ls.length := by omega
      have hix := hv.ix hkl
      obtain ⟨u, hu, hU⟩ := hv.get hkl
      have fu := hU.flat
      have lu := lenV_isL hU
      have hlt : (k : Int) < (n : Int) := by omega
      by_cases he : (Ls[k].length : Int) = 256
      · simp (disch := first | assumption | omega | (simp only [lenS]; first | done | omega)) [hlt, hix, hu, lu, he, w1]
        intro j hj hjk
        by_cases e : j = k
        · subst e; omega
        · exact hp j hj (by omega)
      · have hf : ¬ Fit n Ls := fun h => he (by rw [h.2 _ (List.getElem_mem hkl)]; rfl)
        simp (disch := first | assumption | omega | (simp only [lenS]; first | done | omega)) [hlt, hix, hu, lu, he, hf]
    · intro hp
      have hf : Fit n Ls := ⟨h1', fun L hL => by
        obtain ⟨j, hj, rfl⟩ := List.mem_iff_getElem.1 hL
        exact hp j hj (by omega)⟩
      simp (disch := first | assumption | omega | (simp only [lenS]; first | done | omega)) [hf]
  · have hf : ¬ Fit n Ls := fun h => h1 (by rw [h.1])
    simp (disch := first | assumption | omega | (simp only [lenS]; first | done | omega)) [A50, lx, h1, hf]
theorem light {x : AV} {xs : List AV} {Ls : List (List Int)} (hv : IsW (IsL .i64) x xs Ls) : ∃ b, FF tab 16 [x] = some ⟨.b b, []⟩ ∧ (b = true → Ls.length ≤ 10 ∧ ∀ L ∈ Ls, L.length ≤ 300) := by
  have fx := hv.flat
  have lx := hv.lenV
  by_cases h1 : (10 : Int) < (Ls.length : Int)
  · refine ⟨false, ?_, fun h => by cases h⟩
    refine call_by (A := A16) rfl rfl ?_
    simp (disch := first | assumption | omega | (simp only [lenS]; first | done | omega)) [A16, lx, h1]
  · refine ⟨decide (∀ L ∈ Ls, L.length ≤ 300), ?_, fun h => ⟨by omega, of_decide_eq_true h⟩⟩
    refine call_by (A := A16) rfl rfl ?_
    simp (disch := first | assumption | omega | (simp only [lenS]; first | done | omega)) [A16, lx, h1]
    refine w_headsP Ls.length (fun k => ⟨[(3, .i .i64 k), (0, x)], []⟩) (fun k => ∀ j (h : j < Ls.length), j < k → Ls[j].length ≤ 300) (by simp (disch := first | assumption | omega | (simp only [lenS]; first | done | omega)) []) (fun j _ h => by omega) ?_ ?_
    · intro k hk hp
      have w1 : IntKind.i64.wrap ((k : Int) + 1) = (k : Int) + 1 := i64_in _ (by omega)
      have hix := hv.ix hk
      obtain ⟨u, hu, hU⟩ := hv.get hk
      have fu := hU.flat
      have lu := lenV_isL hU
      have hlt : (k : Int) < (Ls.length : Int) := by omega
      by_cases he : (300 : Int) < (Ls[k].length : Int)
      · have hf : ¬ ∀ L ∈ Ls, L.length ≤ 300 := fun h => by have := h _ (List.getElem_mem hk); omega
        simp (disch := first | assumption | omega | (simp only [lenS]; first | done | omega)) [lx, hlt, hix, hu, lu, he, hf]
      · simp (disch := first | assumption | omega | (simp only [lenS]; first | done | omega)) [lx, hlt, hix, hu, lu, he, w1]
        intro j hj hjk
        by_cases e : j = k
        · subst e; omega
        · exact hp j hj (by omega)
    · intro hp
      have hf : ∀ L ∈ Ls, L.length ≤ 300 := fun L hL => by
        obtain ⟨j, hj, rfl⟩ := List.mem_iff_getElem.1 hL
        exact hp j hj (by omega)
      simp (disch := first | assumption | omega | (simp only [lenS]; first | done | omega)) [lx, hf]
theorem sameV {x y : AV} {xs ys : List AV} {Ls : List (List Int)} (hx : IsW (IsL .i64) x xs Ls) (hy : IsW (IsL .i64) y ys Ls) (hm : Ls.length ≤ 100) (hl : ∀ L ∈ Ls, L.length ≤ 100000) : FF tab 22 [x, y] = some ⟨.b true, []⟩ := by
  refine call_by (A := A22) rfl rfl ?_
  have fx := hx.flat
  have fy := hy.flat
  have lx := hx.lenV
  have ly := hy.lenV
  simp (disch := first | assumption | omega | (simp only [lenS]; first | done | omega)) [A22, lx, ly]
  refine w_heads Ls.length (fun k => ⟨[(5, .i .i64 k), (1, y), (0, x)], []⟩) (by simp (disch := first | assumption | omega | (simp only [lenS]; first | done | omega)) []) ?_ ?_
  · intro k hk
    have w1 : IntKind.i64.wrap ((k : Int) + 1) = (k : Int) + 1 := i64_in _ (by omega)
    have hix := hx.ix hk
    have hiy := hy.ix hk
    obtain ⟨u, hu, hU⟩ := hx.get hk
    obtain ⟨v, hv, hV⟩ := hy.get hk
    have fu := hU.flat
    have fv := hV.flat
    have hs := SameInts hU hV (by have := hl _ (List.getElem_mem hk); omega)
    rw [decide_eq_true rfl] at hs
    have hlt : (k : Int) < (Ls.length : Int) := by omega
    simp (disch := first | assumption | omega | (simp only [lenS]; first | done | omega)) [lx, hlt, hix, hiy, hu, hv, hs, w1]
  · simp (disch := first | assumption | omega | (simp only [lenS]; first | done | omega)) [lx]
theorem sameBo {x y : AV} {B : List Bool} (hx : IsB x B) (hy : IsB y B) (hm : B.length ≤ 100000) : FF tab 49 [x, y] = some ⟨.b true, []⟩ := by
  refine call_by (A := A49) rfl rfl ?_
  have fx := hx.flat
  have fy := hy.flat
  have lx := lenV_isB hx
  have ly := lenV_isB hy
  simp (disch := first | assumption | omega | (simp only [lenS]; first | done | omega)) [A49, lx, ly]
  refine w_heads B.length (fun k => ⟨[(5, .i .i64 k), (1, y), (0, x)], []⟩) (by simp (disch := first | assumption | omega | (simp only [lenS]; first | done | omega)) []) ?_ ?_
  · intro k hk
    have w1 : IntKind.i64.wrap ((k : Int) + 1) = (k : Int) + 1 := i64_in _ (by omega)
    have hkn : (k : Int).toNat = k := Int.toNat_natCast _
    have hix := ixSV_isB hx (k' := .i64) (j := (k : Int)) (by omega) (by omega)
    have hiy := ixSV_isB hy (k' := .i64) (j := (k : Int)) (by omega) (by omega)
    rw [hkn] at hix hiy
    have hg := bools_get hk
    have hlt : (k : Int) < (B.length : Int) := by omega
    simp (disch := first | assumption | omega | (simp only [lenS]; first | done | omega)) [lx, hlt, hix, hiy, hg, w1]
  · simp (disch := first | assumption | omega | (simp only [lenS]; first | done | omega)) [lx]
theorem sameH {x y : AV} {xs ys : List AV} {Ls : List (List Bool)} (hx : IsW IsB x xs Ls) (hy : IsW IsB y ys Ls) (hm : Ls.length ≤ 100) (hl : ∀ L ∈ Ls, L.length ≤ 100000) : FF tab 15 [x, y] = some ⟨.b true, []⟩ := by
  refine call_by (A := A15) rfl rfl ?_
  have fx := hx.flat
  have fy := hy.flat
  have lx := hx.lenV
  have ly := hy.lenV
  simp (disch := first | assumption | omega | (simp only [lenS]; first | done | omega)) [A15, lx, ly]
  refine w_heads Ls.length (fun k => ⟨[(5, .i .i64 k), (1, y), (0, x)], []⟩) (by simp (disch := first | assumption | omega | (simp only [lenS]; first | done | omega)) []) ?_ ?_
  · intro k hk
    have w1 : IntKind.i64.wrap ((k : Int) + 1) = (k : Int) + 1 := i64_in _ (by omega)
    have hix := hx.ix hk
    have hiy := hy.ix hk
    obtain ⟨u, hu, hU⟩ := hx.get hk
    obtain ⟨v, hv, hV⟩ := hy.get hk
    have fu := hU.flat
    have fv := hV.flat
    have hs := sameBo hU hV (hl _ (List.getElem_mem hk))
    have hlt : (k : Int) < (Ls.length : Int) := by omega
    simp (disch := first | assumption | omega | (simp only [lenS]; first | done | omega)) [lx, hlt, hix, hiy, hu, hv, hs, w1]
  · simp (disch := first | assumption | omega | (simp only [lenS]; first | done | omega)) [lx]
end Zab.YtbmhaamjajoggaaDoorB
