/- Products of polynomials modulo X^n + 1 go in any order, and over sums; plain arithmetic. -/
import Derived.Test.YtcebddjidpbhgaaDoorBConv
namespace Zab.YtcebddjidpbhgaaDoorB
open Go
set_option maxRecDepth 100000
set_option linter.unusedSimpArgs false
set_option linter.unusedVariables false

theorem anti_at {N : Nat} {f : Int → Int} (h : Anti N f) (r : Int) : ∀ k : Nat, f (r + N * k) = (if k % 2 = 0 then f r else - f r) ∧ f (r - N * k) = (if k % 2 = 0 then f r else - f r)
  | 0 => by simp
  | k + 1 => by
    obtain ⟨h1, h2⟩ := anti_at h r k
    have e1 : r + N * ((k + 1 : Nat) : Int) = r + N * k + N := by rw [Int.natCast_add, Int.mul_add]; omega
    have e2 : r - N * ((k + 1 : Nat) : Int) = r - N * k - N := by rw [Int.natCast_add, Int.mul_add]; omega
    rw [e1, e2, h, h.down, h1, h2]
    by_cases hk : k % 2 = 0
    · rw [if_pos hk, if_neg (by omega)]; exact ⟨rfl, rfl⟩
    · rw [if_neg hk, if_pos (by omega)]; omega
/-- What is the same from 0 to below n is the same everywhere. -/
theorem anti_all {q : Int} {N : Nat} (hN : 0 < N) {f g : Int → Int} (hf : Anti N f) (hg : Anti N g) (h : ∀ t : Nat, t < N → Eqm q (f t) (g t)) (t : Int) : Eqm q (f t) (g t) := by
  have r0 := Int.emod_nonneg t (show (N : Int) ≠ 0 by omega)
  have r1 := Int.emod_lt_of_pos t (show 0 < (N : Int) by omega)
  have hr := h (t % N).toNat (by omega)
  rw [show (((t % N).toNat : Nat) : Int) = t % N by omega] at hr
  have e := Int.mul_ediv_add_emod t N
  by_cases hs : 0 ≤ t / N
  · have e1 : t = t % N + N * ((t / N).toNat : Int) := by rw [show ((t / N).toNat : Int) = t / N by omega]; omega
    have f1 := (anti_at hf (t % N) (t / N).toNat).1
    have g1 := (anti_at hg (t % N) (t / N).toNat).1
    rw [← e1] at f1 g1
    rw [f1, g1]
    split
    · exact hr
    · exact hr.neg
  · have e1 : t = t % N - N * ((-(t / N)).toNat : Int) := by rw [show ((-(t / N)).toNat : Int) = -(t / N) by omega, Int.mul_neg]; omega
    have f1 := (anti_at hf (t % N) (-(t / N)).toNat).2
    have g1 := (anti_at hg (t % N) (-(t / N)).toNat).2
    rw [← e1] at f1 g1
    rw [f1, g1]
    split
    · exact hr
    · exact hr.neg

theorem raw_cv (L M : List Int) {N k : Nat} (hk : k < N) : rawN L M N k = cvE (ext L N) (ext M N) N k := by
  unfold rawN cvE
  refine sumTo_congr fun i hi => ?_
  rw [ext_in L hi]
  unfold tm
  by_cases h : i ≤ k
  · rw [if_pos h, show ((k : Int)) - i = ((k - i : Nat) : Int) by omega, ext_in M (by omega)]
  · rw [if_neg h]
    have := ext_down M (N := N) (by omega) ((N + k - i : Nat) : Int)
    rw [ext_in M (by omega), show ((N + k - i : Nat) : Int) - N = (k : Int) - i by omega] at this
    rw [this, Int.mul_neg]
theorem convL_ni {q : Int} {L M : List Int} {k : Nat} (hk : k < L.length) : ni (convL q L M) k = rawN L M L.length k % q := by
  rw [ni_get (by rw [convL_len]; exact hk)]
  simp [convL, rawL]
theorem convL_ext {q : Int} {L M : List Int} {N : Nat} (hN : 0 < N) (hL : L.length = N) (t : Int) : Eqm q (ext (convL q L M) N t) (cvE (ext L N) (ext M N) N t) := by
  refine anti_all hN (ext_anti _ hN) (cvE_anti (ext_anti _ hN)) (fun t ht => ?_) t
  rw [ext_in _ ht, convL_ni (by omega), hL, raw_cv L M ht]
  exact Eqm.mod _ _
theorem convL_mods {q : Int} (hq : 0 < q) (L M : List Int) : Mods q (convL q L M) := by
  intro x hx
  unfold convL at hx
  obtain ⟨y, _, rfl⟩ := List.mem_map.1 hx
  exact ⟨Int.emod_nonneg _ (by omega), Int.emod_lt_of_pos _ hq⟩
theorem mods_ext {q : Int} {L M : List Int} {N : Nat} (hL : L.length = N) (hM : M.length = N) (mL : Mods q L) (mM : Mods q M) (h : ∀ t : Nat, t < N → Eqm q (ext L N t) (ext M N t)) : L = M := by
  refine ni_ext (by omega) fun j hj => ?_
  have := h j (by omega)
  rw [ext_in _ (by omega), ext_in _ (by omega)] at this
  have a := mods_at mL hj
  have b := mods_at mM (j := j) (by omega)
  exact this.eq a.1 a.2 b.1 b.2

section
variable {q : Int} {N : Nat} {L M P : List Int}
theorem convL_comm (hq : 0 < q) (hL : L.length = N) (hM : M.length = N) (hN : 0 < N) : convL q L M = convL q M L := by
  refine mods_ext (N := N) (by rw [convL_len, hL]) (by rw [convL_len, hM]) (convL_mods hq _ _) (convL_mods hq _ _) fun t ht => ?_
  refine (convL_ext hN hL t).trans (Eqm.trans (Eqm.of ?_) (convL_ext hN hM t).symm)
  exact cvE_comm (ext_anti _ hN) (ext_anti _ hN) _
theorem convL_assoc (hq : 0 < q) (hL : L.length = N) (hM : M.length = N) (hN : 0 < N) : convL q (convL q L M) P = convL q L (convL q M P) := by
  refine mods_ext (N := N) (by rw [convL_len, convL_len, hL]) (by rw [convL_len, hL]) (convL_mods hq _ _) (convL_mods hq _ _) fun t ht => ?_
  refine (convL_ext hN (by rw [convL_len, hL]) t).trans (Eqm.trans ?_ (convL_ext hN hL t).symm)
  refine Eqm.trans (cvE_mod (f' := cvE (ext L N) (ext M N) N) (g' := ext P N) (fun t => convL_ext hN hL t) (fun _ => Eqm.rfl) t) ?_
  rw [cvE_assoc (ext_anti _ hN) (ext_anti _ hN)]
  exact cvE_mod (fun _ => Eqm.rfl) (fun t => (convL_ext hN hM t).symm) t
def addL (q : Int) (L M : List Int) : List Int := zipTo (fun a b => (a + b) % q) L M
theorem addL_len (q : Int) (L M : List Int) : (addL q L M).length = L.length := zipTo_len _ _ _
theorem addL_ni (q : Int) (L M : List Int) {j : Nat} (h : j < L.length) : ni (addL q L M) j = (ni L j + ni M j) % q := zipTo_ni _ _ _ h
theorem addL_mods (hq : 0 < q) (L M : List Int) : Mods q (addL q L M) := mods_step fun j hj => by
  rw [addL_len] at hj
  rw [addL_ni q L M hj]
  exact ⟨Int.emod_nonneg _ (by omega), Int.emod_lt_of_pos _ hq⟩
theorem addL_ext (hN : 0 < N) (hL : L.length = N) (t : Int) : Eqm q (ext (addL q L M) N t) (ext L N t + ext M N t) := by
  refine anti_all hN (f := ext (addL q L M) N) (g := fun t => ext L N t + ext M N t) (ext_anti _ hN) (fun t => by simp only [ext_step L hN, ext_step M hN]; omega) (fun t ht => ?_) t
  simp only [ext_in _ ht]
  rw [addL_ni q L M (by omega)]
  exact Eqm.mod _ _
theorem convL_add (hq : 0 < q) (hL : L.length = N) (hM : M.length = N) (hN : 0 < N) : convL q L (addL q M P) = addL q (convL q L M) (convL q L P) := by
  refine mods_ext (N := N) (by rw [convL_len, hL]) (by rw [addL_len, convL_len, hL]) (convL_mods hq _ _) (addL_mods hq _ _) fun t ht => ?_
  refine (convL_ext hN hL t).trans (Eqm.trans ?_ (addL_ext hN (by rw [convL_len, hL]) t).symm)
  refine Eqm.trans (cvE_mod (f' := ext L N) (g' := fun t => ext M N t + ext P N t) (fun _ => Eqm.rfl) (fun t => addL_ext hN hM t) t) ?_
  rw [cvE_addR]
  exact ((convL_ext hN hL t).symm).add ((convL_ext hN hL t).symm)
end

/-- A power of X. -/
def unit (N i : Nat) (v : Int) : List Int := (List.replicate N 0).set i v
theorem unit_len (N i : Nat) (v : Int) : (unit N i v).length = N := by simp [unit]
theorem unit_ni {N i : Nat} (v : Int) (j : Nat) (hi : i < N) : ni (unit N i v) j = if j = i then v else 0 := by
  by_cases hj : j < N
  · rw [ni_get (by rw [unit_len]; exact hj)]
    simp only [unit, List.getElem_set, List.getElem_replicate]
    by_cases e : i = j
    · rw [if_pos e, if_pos e.symm]
    · rw [if_neg e, if_neg (fun h => e h.symm)]
  · rw [if_neg (by omega)]
    simp [ni, List.getD, List.getElem?_eq_none (show (unit N i v).length ≤ j by rw [unit_len]; omega)]
theorem unit_mods {q : Int} (hq : 1 < q) {N i : Nat} (hi : i < N) (v : Int) (h0 : 0 ≤ v) (h1 : v < q) : Mods q (unit N i v) := mods_step fun j hj => by
  rw [unit_ni v j hi]
  split <;> omega
theorem sumTo_one {f : Nat → Int} {i : Nat} (h : ∀ s, s ≠ i → f s = 0) (n : Nat) : sumTo f n = if i < n then f i else 0 := by
  rw [← sumTo_pick f i n]
  exact sumTo_congr fun s _ => by
    by_cases e : s = i
    · rw [if_pos e]
    · rw [if_neg e, h s e]
theorem convL_unit {q : Int} (hq : 1 < q) {N i k : Nat} (hi : i < N) (hk : k < N) : convL q (unit N i 1) (unit N k 1) = if i + k < N then unit N (i + k) 1 else unit N (i + k - N) (q - 1) := by
  have hlen : (convL q (unit N i 1) (unit N k 1)).length = N := by rw [convL_len, unit_len]
  have hraw : ∀ t, t < N → ni (convL q (unit N i 1) (unit N k 1)) t = (if hit N i t = k then (if i ≤ t then 1 else -1) else 0) % q := by
    intro t ht
    have e : ni (convL q (unit N i 1) (unit N k 1)) t = rawN (unit N i 1) (unit N k 1) N t % q := by
      rw [convL_ni (by rw [unit_len]; exact ht), unit_len]
    rw [e]
    congr 1
    unfold rawN
    rw [sumTo_one (i := i) (fun s hs => by
      unfold tm
      rw [unit_ni 1 s hi, if_neg hs]; simp), if_pos hi]
    unfold tm hit
    rw [unit_ni 1 i hi, if_pos rfl]
    by_cases h : i ≤ t
    · simp only [h, if_true]
      rw [unit_ni 1 _ hk]; simp
    · simp only [h, if_false]
      rw [unit_ni 1 _ hk]
      split <;> simp
  by_cases hc : i + k < N
  · rw [if_pos hc]
    refine ni_ext (by rw [hlen, unit_len]) fun t ht => ?_
    rw [hlen] at ht
    rw [hraw t ht, unit_ni 1 t hc]
    unfold hit
    by_cases e : t = i + k
    · subst e
      rw [if_pos rfl, if_pos (by split <;> omega), if_pos (by omega)]
      exact Int.emod_eq_of_lt (by omega) (by omega)
    · rw [if_neg e, if_neg (by split <;> omega)]; simp
  · rw [if_neg hc]
    refine ni_ext (by rw [hlen, unit_len]) fun t ht => ?_
    rw [hlen] at ht
    rw [hraw t ht, unit_ni (q - 1) t (by omega)]
    unfold hit
    by_cases e : t = i + k - N
    · subst e
      rw [if_pos rfl, if_pos (by split <;> omega), if_neg (by omega)]
      rw [show (-1 : Int) = (q - 1) + q * (-1) by omega, Int.add_mul_emod_self_left]
      exact Int.emod_eq_of_lt (by omega) (by omega)
    · rw [if_neg e, if_neg (by split <;> omega)]; simp

section
variable {q : Int} {N : Nat} {L : List Int}
/-- A multiple of 1. -/
theorem convL_by (hq : 0 < q) (hL : L.length = N) (hN : 0 < N) (v : Int) : convL q L (unit N 0 v) = L.map (fun a => a * v % q) := by
  refine ni_ext (by rw [convL_len, List.length_map]) fun t ht => ?_
  rw [convL_len] at ht
  rw [convL_ni ht, ni_get (by simpa using ht)]
  simp only [List.getElem_map]
  congr 1
  unfold rawN
  rw [sumTo_one (i := t) (fun s hs => by
    unfold tm
    by_cases h : s ≤ t
    · rw [if_pos h, unit_ni v _ hN, if_neg (by omega)]; simp
    · rw [if_neg h, hL]
      by_cases h2 : s < N + t
      · rw [unit_ni v _ hN, if_neg (by omega)]; simp
      · have : ni L s = 0 := by simp [ni, List.getD, List.getElem?_eq_none (show L.length ≤ s by omega)]
        rw [this]; simp), if_pos ht]
  unfold tm
  rw [if_pos (Nat.le_refl t), Nat.sub_self, unit_ni v 0 hN, if_pos rfl, ni_get ht]
theorem convL_one (hq : 1 < q) (hL : L.length = N) (hN : 0 < N) (hm : Mods q L) : convL q L (unit N 0 1) = L := by
  rw [convL_by (by omega) hL hN]
  apply List.ext_getElem (by simp)
  intro j h1 h2
  have := hm L[j] (List.getElem_mem h2)
  simp only [List.getElem_map, Int.mul_one]
  exact Int.emod_eq_of_lt this.1 this.2
/-- n steps of X, in two halves, turn all signs. -/
theorem convL_turn (hq : 1 < q) (hL : L.length = N) (h2 : 2 ≤ N) (he : N % 2 = 0) : addL q (convL q (convL q L (unit N (N / 2) 1)) (unit N (N / 2) 1)) L = List.replicate N 0 := by
  rw [convL_assoc (N := N) (by omega) hL (unit_len _ _ _) (by omega), convL_unit hq (by omega) (by omega), if_neg (by omega), show N / 2 + N / 2 - N = 0 by omega, convL_by (by omega) hL (by omega)]
  refine ni_ext (by rw [addL_len]; simp [hL]) fun j hj => ?_
  rw [addL_len, List.length_map] at hj
  rw [addL_ni q _ _ (by simpa using hj), ni_get (by simpa using hj), ni_get hj, ni_get (by simp; omega)]
  simp only [List.getElem_map, List.getElem_replicate]
  rw [Int.emod_add_emod, show L[j] * (q - 1) + L[j] = q * L[j] by rw [Int.mul_sub, Int.mul_comm]; omega]
  exact Int.mul_emod_right _ _
end
end Zab.YtcebddjidpbhgaaDoorB
