/- Vectors: their norms, sums, signs; plain arithmetic. -/
import Derived.Test.YtcebddjidpbhgaaDoorConvA
import Derived.Test.YtcebddjidpbhgaaDoorMake
import Derived.Test.YtcebddjidpbhgaaDoorRef2
import Derived.Test.YtcebddjidpbhgaaDoorZabData
import Derived.KernelRfl
namespace Zab.YtcebddjidpbhgaaDoor
open Go
set_option maxRecDepth 100000
set_option linter.unusedSimpArgs false
set_option linter.unusedVariables false

theorem first2 : FF tab 29 [] = some ⟨.b true, []⟩ := FF_of (n := 60) (by kernel_rfl)
/-- A vector of n numbers. -/
structure VB (q n : Int) (N : Nat) (L : List Int) : Prop where
  bad : vecBad q n L = 0
  len : L.length = N
section
variable {q n : Int} {N : Nat} {L M P : List Int}
theorem VB.slv (h : VB q n N L) : slv .i64 L = .sl (nums .i64 L) N := by rw [← h.len]
theorem VB.mods (h : VB q n N L) : Mods q L := (vecBad_zero.1 h.bad).2.2.2
theorem VB.right (h : VB q n N L) : Right q := (vecBad_zero.1 h.bad).1
theorem VB.of (h : VB q n N L) (hl : M.length = N) (hm : Mods q M) : VB q n N M := by
  obtain ⟨h1, h2, h3, h4⟩ := vecBad_zero.1 h.bad
  exact ⟨vecBad_zero.2 ⟨h1, h2, by rw [hl, ← h.len, h3], hm⟩, hl⟩
theorem zipTo_mods {g : Int → Int → Int} (hg : ∀ a b, 0 ≤ g a b ∧ g a b < q) (L M : List Int) : Mods q (zipTo g L M) := mods_step fun j hj => by
  rw [zipTo_len] at hj
  rw [zipTo_ni g L M hj]
  exact hg _ _
theorem VB.zip (h : VB q n N L) {g : Int → Int → Int} (hg : ∀ a b, 0 ≤ g a b ∧ g a b < q) : VB q n N (zipTo g L M) := h.of (by rw [zipTo_len, h.len]) (zipTo_mods hg _ _)
theorem smN (hl : L.length = N) (hN : N ≤ 256) : FF tab 26 [.sl (nums .i64 L) N, .sl (nums .i64 L) N] = some ⟨.b true, []⟩ := by
  have := SameInts (.mk .i64 L) (.mk .i64 L) (by omega)
  simp only [slv, hl, decide_true] at this
  exact this
theorem mvN {x : AV} (hv : valid q n = 0) (hx : IsL .i64 x L) (hs : (L.length : Int) ≤ 40) : FF tab 40 [(.ag [.i .i64 (q), .i .i64 (n)]), x] = some ⟨.os (nums .i64 (mkVec q n L)) n.toNat 1, []⟩ ∧ VB q n n.toNat (mkVec q n L) := by
  have := MakeVector q n hv hx (by omega)
  rw [mkVec_len] at this
  exact ⟨this, mkVec_bad L hv, mkVec_len q n L⟩
theorem mod_in (hq : 0 < q) (a : Int) : 0 ≤ a % q ∧ a % q < q := ⟨Int.emod_nonneg _ (by omega), Int.emod_lt_of_pos _ hq⟩
theorem adN (h : VB q n N L) (h' : VB q n N M) : FF tab 41 [(.ag [.i .i64 (q), .i .i64 (n)]), .sl (nums .i64 L) N, .sl (nums .i64 M) N] = some ⟨.tp [.sl (nums .i64 (zipTo (fun a b => (a + b) % q) L M)) N, .nl], []⟩ := by
  have := rAdd q n (.mk .i64 L) (.mk .i64 M) h.bad h'.bad
  rw [h.slv, h'.slv, (h.zip (M := M) (g := fun a b => (a + b) % q) fun a b => mod_in (by have := h.right.lo; omega) _).slv] at this
  exact this
theorem suN (h : VB q n N L) (h' : VB q n N M) : FF tab 48 [(.ag [.i .i64 (q), .i .i64 (n)]), .sl (nums .i64 L) N, .sl (nums .i64 M) N] = some ⟨.tp [.sl (nums .i64 (zipTo (fun a b => (a - b) % q) L M)) N, .nl], []⟩ := by
  have := rSub q n (.mk .i64 L) (.mk .i64 M) h.bad h'.bad
  rw [h.slv, h'.slv, (h.zip (M := M) (g := fun a b => (a - b) % q) fun a b => mod_in (by have := h.right.lo; omega) _).slv] at this
  exact this
theorem muN (h : VB q n N L) (h' : VB q n N M) : FF tab 49 [(.ag [.i .i64 (q), .i .i64 (n)]), .sl (nums .i64 L) N, .sl (nums .i64 M) N] = some ⟨.tp [.sl (nums .i64 (zipTo (fun a b => (a * b) % q) L M)) N, .nl], []⟩ := by
  have := rMul q n (.mk .i64 L) (.mk .i64 M) h.bad h'.bad
  rw [h.slv, h'.slv, (h.zip (M := M) (g := fun a b => (a * b) % q) fun a b => mod_in (by have := h.right.lo; omega) _).slv] at this
  exact this
theorem scN (h : VB q n N L) (k : Int) : FF tab 46 [(.ag [.i .i64 (q), .i .i64 (n)]), .sl (nums .i64 L) N, .i .i64 k] = some ⟨.tp [.os (nums .i64 (L.map fun a => a * (k % q) % q)) N 1, .nl], []⟩ := by
  have := rScale q n (.mk .i64 L) h.bad k
  rw [h.slv, h.len] at this
  exact this
theorem noN (h : VB q n N L) : FF tab 47 [(.ag [.i .i64 (q), .i .i64 (n)]), .sl (nums .i64 L) N] = some ⟨.tp [.i .i64 (normL q L), .nl], []⟩ := by
  have := rNorm q n (.mk .i64 L) h.bad
  rw [h.slv] at this
  exact this
theorem VB.scale (h : VB q n N L) (k : Int) : VB q n N (L.map fun a => a * k % q) := h.of (by simp [h.len]) (by
  intro x hx
  obtain ⟨y, _, rfl⟩ := List.mem_map.1 hx
  exact mod_in (by have := h.right.lo; omega) _)
theorem zipTo_eq {g : Int → Int → Int} (hl : P.length = L.length) (h : ∀ j, j < L.length → g (ni L j) (ni M j) = ni P j) : zipTo g L M = P := by
  refine ni_ext (by rw [zipTo_len, hl]) fun j hj => ?_
  rw [zipTo_len] at hj
  rw [zipTo_ni g L M hj, h j hj]

theorem over_add (hL : L.length = N) (hM : M.length = N) (hP : P.length = N) : zipTo (fun a b => (a * b) % q) L (zipTo (fun a b => (a + b) % q) M P) = zipTo (fun a b => (a + b) % q) (zipTo (fun a b => (a * b) % q) L M) (zipTo (fun a b => (a * b) % q) L P) := by
  refine zipTo_eq (by rw [zipTo_len, zipTo_len]) fun j hj => ?_
  rw [zipTo_ni _ _ _ (by omega), zipTo_ni _ _ _ (by rw [zipTo_len]; omega), zipTo_ni _ _ _ (by omega), zipTo_ni _ _ _ (by omega)]
  have h1 : Eqm q (ni L j * ((ni M j + ni P j) % q)) (ni L j * ni M j + ni L j * ni P j) := by
    rw [← Int.mul_add]; exact Eqm.rfl.mul (Eqm.mod _ _)
  have h2 : Eqm q (ni L j * ni M j % q + ni L j * ni P j % q) (ni L j * ni M j + ni L j * ni P j) := (Eqm.mod _ _).add (Eqm.mod _ _)
  exact h1.trans h2.symm
theorem add_sub (hL : L.length = N) (hM : M.length = N) (mL : Mods q L) : zipTo (fun a b => (a - b) % q) (zipTo (fun a b => (a + b) % q) L M) M = L := by
  refine zipTo_eq (by rw [zipTo_len]) fun j hj => ?_
  rw [zipTo_len] at hj
  rw [zipTo_ni _ _ _ hj]
  have a := mods_at mL hj
  have h1 : Eqm q ((ni L j + ni M j) % q - ni M j) (ni L j) := ((Eqm.mod q _).sub Eqm.rfl).trans (Eqm.of (by omega))
  exact (h1.symm.eqMod (by omega) a.1 a.2).symm
theorem neg_scale (hL : L.length = N) : zipTo (fun a b => (a - b) % q) (List.replicate N 0) L = L.map fun a => a * ((-1) % q) % q := by
  refine zipTo_eq (by simp [hL]) fun j hj => ?_
  simp only [List.length_replicate] at hj
  rw [ni_get (by simpa using hj), ni_get (by omega), ni_get (by simpa using (by omega : j < L.length))]
  simp only [List.getElem_replicate, List.getElem_map]
  have h1 : Eqm q (L[j] * ((-1) % q)) (L[j] * (-1)) := Eqm.rfl.mul (Eqm.mod _ _)
  have h2 : L[j] * (-1) = 0 - L[j] := by omega
  rw [h2] at h1
  exact h1.symm

theorem right_odd (hq : Right q) : q % 2 = 1 := by rcases hq with rfl | rfl | rfl | rfl | rfl | rfl | rfl <;> rfl
theorem cen_in (hq : Right q) (a : Int) : -((q - 1) / 2) ≤ cen q a ∧ cen q a ≤ (q - 1) / 2 ∧ Eqm q (cen q a) a := by
  have lo := hq.lo
  have od := right_odd hq
  have m := mod_in (q := q) (by omega) a
  unfold cen
  by_cases h : (q - 1) / 2 < a % q
  · rw [if_pos h]
    refine ⟨by omega, by omega, ?_⟩
    have : Eqm q (a % q - q) (a % q) := by unfold Eqm; rw [Int.sub_emod_right]
    exact this.trans (Eqm.mod _ _)
  · rw [if_neg h]
    exact ⟨by omega, by omega, Eqm.mod _ _⟩
/-- The nearest to 0 is found by its bounds. -/
theorem cen_of (hq : Right q) {a c : Int} (h0 : -((q - 1) / 2) ≤ c) (h1 : c ≤ (q - 1) / 2) (h : Eqm q c a) : cen q a = c := by
  have lo := hq.lo
  have od := right_odd hq
  obtain ⟨c0, c1, c2⟩ := cen_in hq a
  have e : Eqm q (cen q a + (q - 1) / 2) (c + (q - 1) / 2) := (c2.trans h.symm).add Eqm.rfl
  have := e.eq (by omega) (by omega) (by omega) (by omega)
  omega
theorem cen_neg (hq : Right q) {a b : Int} (h : Eqm q b (-a)) : cen q b = - cen q a := by
  obtain ⟨c0, c1, c2⟩ := cen_in hq a
  exact cen_of hq (by omega) (by omega) (c2.neg.trans h.symm)
theorem cen_eqm (hq : Right q) {a b : Int} (h : Eqm q a b) : cen q a = cen q b := by unfold cen; rw [h]
/-- The nearest to 0 is the least of all. -/
theorem cen_least (hq : Right q) {a c : Int} (h : Eqm q c a) : absI (cen q a) ≤ absI c := by
  have lo := hq.lo
  have od := right_odd hq
  obtain ⟨c0, c1, c2⟩ := cen_in hq a
  by_cases hc : -((q - 1) / 2) ≤ c ∧ c ≤ (q - 1) / 2
  · rw [cen_of hq hc.1 hc.2 h]; exact Int.le_refl _
  · unfold absI; omega
theorem mostTo_ge (g : Nat → Int) : ∀ {k j : Nat}, j < k → absI (g j) ≤ mostTo g k
  | k + 1, j, h => by
    simp only [mostTo]
    by_cases e : j = k
    · subst e; omega
    · have := mostTo_ge g (k := k) (j := j) (by omega); omega
theorem mostTo_le (g : Nat → Int) {B : Int} (hB : 0 ≤ B) : ∀ {k : Nat}, (∀ j, j < k → absI (g j) ≤ B) → mostTo g k ≤ B
  | 0, _ => hB
  | k + 1, h => by
    have h1 := mostTo_le g hB (k := k) fun j hj => h j (by omega)
    have h2 := h k (by omega)
    simp only [mostTo]; omega
theorem mostTo_congr {g g' : Nat → Int} : ∀ {k : Nat}, (∀ j, j < k → absI (g j) = absI (g' j)) → mostTo g k = mostTo g' k
  | 0, _ => rfl
  | k + 1, h => by simp only [mostTo]; rw [mostTo_congr fun j hj => h j (by omega), h k (by omega)]
theorem norm_nonneg (q : Int) (L : List Int) : 0 ≤ normL q L := mostTo_nonneg _ _
theorem norm_neg (hq : Right q) (hl : M.length = L.length) (h : ∀ j, j < L.length → Eqm q (ni M j) (-ni L j)) : normL q M = normL q L := by
  unfold normL
  rw [hl]
  refine mostTo_congr fun j hj => ?_
  rw [cen_neg hq (h j hj)]
  unfold absI; omega
theorem norm_add (hq : Right q) (hl : M.length = L.length) : normL q (zipTo (fun a b => (a + b) % q) L M) ≤ normL q L + normL q M := by
  have n1 := norm_nonneg q L
  have n2 := norm_nonneg q M
  rw [show normL q (zipTo (fun a b => (a + b) % q) L M) = mostTo (fun j => cen q (ni (zipTo (fun a b => (a + b) % q) L M) j)) (zipTo (fun a b => (a + b) % q) L M).length from rfl, zipTo_len]
  refine mostTo_le _ (by omega) fun j hj => ?_
  rw [zipTo_ni _ _ _ hj]
  have a1 := mostTo_ge (fun j => cen q (ni L j)) hj
  have a2 := mostTo_ge (fun j => cen q (ni M j)) (k := M.length) (j := j) (by omega)
  obtain ⟨_, _, e1⟩ := cen_in hq (ni L j)
  obtain ⟨_, _, e2⟩ := cen_in hq (ni M j)
  have := cen_least hq (a := (ni L j + ni M j) % q) (c := cen q (ni L j) + cen q (ni M j)) ((e1.add e2).trans (Eqm.mod _ _).symm)
  unfold normL
  unfold absI at *
  omega
theorem norm_lt (hq : Right q) (L : List Int) : normL q L < 8380417 := mostTo_lt (by omega) (fun j => cen_abs _ hq) _
end
end Zab.YtcebddjidpbhgaaDoor
