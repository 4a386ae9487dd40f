/- What the transforms keep: sums, products, and the way back. -/
import Derived.Test.YtcebddjidpbhgaaDoorBNttM
import Derived.Test.YtcebddjidpbhgaaDoorBNttE
import Derived.Test.YtcebddjidpbhgaaDoorBConvA
namespace Zab.YtcebddjidpbhgaaDoorB
open Go
set_option maxRecDepth 100000
set_option linter.unusedSimpArgs false
set_option linter.unusedVariables false

theorem toL_ni {q n : Int} (hq : Right q) (hd : Deg n) (L : List Int) {p : Nat} (hp : p < n.toNat) : p / mlen q n < 2 ^ dep q n ∧ p % mlen q n < mlen q n ∧ ni (toL q n L) p = lay (rt q n) (ni L) (mlen q n) (dep q n) (dep q n) (p / mlen q n) (p % mlen q n) % q := by
  obtain ⟨_, _, h3, h4, _⟩ := dep_ok hq hd
  have h3' : n.toNat = mlen q n * 2 ^ dep q n := h3
  have h4' : 0 < mlen q n := h4
  have hp' : p < mlen q n * 2 ^ dep q n := by rw [← h3']; exact hp
  refine ⟨(Nat.div_lt_iff_lt_mul h4').2 (by rw [Nat.mul_comm]; exact hp'), Nat.mod_lt _ h4', ?_⟩
  unfold toL layL
  rw [ni_map hp', parts_last]
theorem toL_mods {q n : Int} (hq : Right q) (hd : Deg n) (L : List Int) : Mods q (toL q n L) := mods_step fun j hj => by
  have lo := hq.lo
  rw [toL_len hq hd] at hj
  rw [(toL_ni hq hd L hj).2.2]
  exact ⟨Int.emod_nonneg _ (by omega), Int.emod_lt_of_pos _ (by omega)⟩
theorem vecBad_of {q n : Int} {L : List Int} (hq : Right q) (hd : Deg n) (hn : L.length = n.toNat) (hm : Mods q L) : vecBad q n L = 0 := vecBad_zero.2 ⟨hq, hd, by have := hd.lo; omega, hm⟩
theorem toL_bad {q n : Int} (hq : Right q) (hd : Deg n) (L : List Int) : vecBad q n (toL q n L) = 0 := vecBad_of hq hd (toL_len hq hd L) (toL_mods hq hd L)
theorem fromL_mods {q n : Int} (hq : Right q) (hd : Deg n) (L : List Int) : Mods q (fromL q n L) := by
  intro a ha
  have lo := hq.lo
  unfold fromL at ha
  obtain ⟨b, _, rfl⟩ := List.mem_map.1 ha
  exact ⟨Int.emod_nonneg _ (by omega), Int.emod_lt_of_pos _ (by omega)⟩
theorem fromL_bad {q n : Int} (hq : Right q) (hd : Deg n) (L : List Int) : vecBad q n (fromL q n L) = 0 := vecBad_of hq hd (fromL_len hq hd L) (fromL_mods hq hd L)

/-- A SUM, THERE. -/
theorem toL_add {q n : Int} (hq : Right q) (hd : Deg n) {L M : List Int} (hL : L.length = n.toNat) : toL q n (zipTo (fun a b => (a + b) % q) L M) = zipTo (fun a b => (a + b) % q) (toL q n L) (toL q n M) := by
  refine ni_extL (by rw [zipTo_len, toL_len hq hd, toL_len hq hd]) fun p hp => ?_
  rw [toL_len hq hd] at hp
  obtain ⟨h1, h2, h3⟩ := toL_ni hq hd (zipTo (fun a b => (a + b) % q) L M) hp
  have h4 := (toL_ni hq hd L hp).2.2
  have h5 := (toL_ni hq hd M hp).2.2
  rw [zipTo_ni _ _ _ (by rw [toL_len hq hd]; exact hp), h3, h4, h5]
  have R := ntt_ring hq hd
  have h6 : Eqm q (lay (rt q n) (ni (zipTo (fun a b => (a + b) % q) L M)) (mlen q n) (dep q n) (dep q n) (p / mlen q n) (p % mlen q n)) (lay (rt q n) (fun t => ni L t + ni M t) (mlen q n) (dep q n) (dep q n) (p / mlen q n) (p % mlen q n)) := by
    refine lay_eq R (Nat.le_refl _) (by rw [parts_last]; exact h2) fun t ht => ?_
    rw [zipTo_ni _ _ _ (by omega)]
    exact Eqm.mod _ _
  rw [lay_add] at h6
  exact h6.trans ((Eqm.mod _ _).symm.add (Eqm.mod _ _).symm)
/-- A MULTIPLE, THERE. -/
theorem toL_scale {q n : Int} (hq : Right q) (hd : Deg n) {L : List Int} (hL : L.length = n.toNat) (c : Int) : toL q n (L.map fun a => a * c % q) = (toL q n L).map fun a => a * c % q := by
  refine ni_extL (by rw [List.length_map, toL_len hq hd, toL_len hq hd]) fun p hp => ?_
  rw [toL_len hq hd] at hp
  obtain ⟨h1, h2, h3⟩ := toL_ni hq hd (L.map fun a => a * c % q) hp
  have h4 := (toL_ni hq hd L hp).2.2
  have hg : ∀ (X : List Int) (t : Nat), t < X.length → ni (X.map fun a => a * c % q) t = ni X t * c % q := fun X t ht => by
    rw [ni_get (by simpa using ht), ni_get ht]; simp
  rw [hg _ _ (by rw [toL_len hq hd]; exact hp), h3, h4]
  have R := ntt_ring hq hd
  have h6 : Eqm q (lay (rt q n) (ni (L.map fun a => a * c % q)) (mlen q n) (dep q n) (dep q n) (p / mlen q n) (p % mlen q n)) (lay (rt q n) (fun t => ni L t * c) (mlen q n) (dep q n) (dep q n) (p / mlen q n) (p % mlen q n)) := by
    refine lay_eq R (Nat.le_refl _) (by rw [parts_last]; exact h2) fun t ht => ?_
    rw [hg _ _ (by omega)]
    exact Eqm.mod _ _
  rw [lay_mul] at h6
  exact h6.trans ((Eqm.mod _ _).symm.mul Eqm.rfl)
/-- ONE, THERE. -/
theorem toL_unit {q n : Int} (hq : Right q) (hd : Deg n) {p : Nat} (hp : p < n.toNat) : ni (toL q n (unit n.toNat 0 1)) p = if p % mlen q n = 0 then 1 else 0 := by
  obtain ⟨h1, h2, h3⟩ := toL_ni hq hd (unit n.toNat 0 1) hp
  have lo := hq.lo
  have R := ntt_ring hq hd
  have hpl := parts_last (mlen q n) (dep q n)
  have h6 : Eqm q (lay (rt q n) (ni (unit n.toNat 0 1)) (mlen q n) (dep q n) (dep q n) (p / mlen q n) (p % mlen q n)) (lay (rt q n) (fun t => if t = 0 then 1 else 0) (mlen q n) (dep q n) (dep q n) (p / mlen q n) (p % mlen q n)) := by
    refine lay_eq R (Nat.le_refl _) (by rw [hpl]; exact h2) fun t ht => ?_
    rw [unit_ni 1 t (by omega)]
    exact Eqm.rfl
  rw [lay_one _ (by rw [hpl]; exact R.m0)] at h6
  rw [h3, h6]
  split
  · exact Int.emod_eq_of_lt (by omega) (by omega)
  · exact Int.zero_emod _
/-- A PRODUCT, THERE. -/
theorem toL_conv {q n : Int} (hq : Right q) (hd : Deg n) {L M : List Int} (hL : L.length = n.toNat) (hM : M.length = n.toNat) : toL q n (convL q L M) = timesL q n (toL q n L) (toL q n M) := by
  obtain ⟨_, _, h3, h4, _⟩ := dep_ok hq hd
  have h3' : n.toNat = mlen q n * 2 ^ dep q n := h3
  have h4' : 0 < mlen q n := h4
  have R := ntt_ring hq hd
  have dlo := hd.lo
  have lo := hq.lo
  refine ni_extL ?_ fun p hp => ?_
  · unfold timesL
    rw [toL_len hq hd, timesTo_len, Nat.mul_comm]; exact h3'
  rw [toL_len hq hd] at hp
  obtain ⟨h1, h2, h5⟩ := toL_ni hq hd (convL q L M) hp
  have hpm : p / mlen q n * mlen q n + p % mlen q n = p := by rw [Nat.mul_comm]; exact Nat.div_add_mod p _
  have h7 : ni (timesL q n (toL q n L) (toL q n M)) p = ni (partL q n (toL q n L) (toL q n M) (p / mlen q n)) (p % mlen q n) := by
    have := timesTo_ni q n (toL q n L) (toL q n M) h2 h1
    rw [hpm] at this
    exact this
  have h8 : ni (partL q n (toL q n L) (toL q n M) (p / mlen q n)) (p % mlen q n) = sumTo (fun i => tmz (rt q n ^ (2 * revN (dep q n) (p / mlen q n) + 1) % q) (fun i => ni (toL q n L) (p / mlen q n * mlen q n + i)) (fun i => ni (toL q n M) (p / mlen q n * mlen q n + i)) (mlen q n) i (p % mlen q n)) (mlen q n) % q := by
    unfold partL
    exact ni_map h2
  rw [h5, h7, h8]
  have h9 := lay_conv R (a := ni L) (b := ni M) (c := ni (convL q L M)) (f := ext L n.toNat) (u := ext M n.toNat)
    (fun t ht => Eqm.of (ext_in L ht).symm) (fun t ht => Eqm.of (ext_in M ht).symm) (ext_anti M (by omega))
    (fun t ht => by
      have := convL_ext (q := q) (L := L) (M := M) (N := n.toNat) (by omega) hL t
      rw [ext_in _ ht] at this; exact this) (p / mlen q n) (p % mlen q n) h2
  refine h9.trans (Eqm.sum fun i hi => ?_)
  have hat : ∀ (X : List Int) (j : Nat), j < mlen q n → Eqm q (lay (rt q n) (ni X) (mlen q n) (dep q n) (dep q n) (p / mlen q n) j) (ni (toL q n X) (p / mlen q n * mlen q n + j)) := fun X j hj => by
    have hlt : p / mlen q n * mlen q n + j < n.toNat := by
      have : (p / mlen q n + 1) * mlen q n ≤ 2 ^ dep q n * mlen q n := Nat.mul_le_mul_right _ h1
      rw [Nat.add_mul, Nat.one_mul, Nat.mul_comm (2 ^ dep q n)] at this; omega
    have := (toL_ni hq hd X hlt).2.2
    rw [Nat.mul_comm (p / mlen q n), Nat.mul_add_div h4', Nat.div_eq_of_lt hj, Nat.add_zero, Nat.mul_add_mod, Nat.mod_eq_of_lt hj, Nat.mul_comm (mlen q n)] at this
    rw [this]
    exact (Eqm.mod _ _).symm
  have hw : Eqm q (rt q n ^ (1 + 2 * revN (dep q n) (p / mlen q n))) (rt q n ^ (2 * revN (dep q n) (p / mlen q n) + 1) % q) := by
    rw [Nat.add_comm 1]; exact (Eqm.mod _ _).symm
  unfold tmz
  split
  · exact (hat L i hi).mul (hat M _ (by omega))
  · exact hw.mul ((hat L i hi).mul (hat M _ (by omega)))

/-- BACK FROM THERE. -/
theorem from_to {q n : Int} (hq : Right q) (hd : Deg n) {L : List Int} (hL : L.length = n.toNat) (hm : Mods q L) : fromL q n (toL q n L) = L := by
  obtain ⟨_, _, h3, h4, _⟩ := dep_ok hq hd
  have h3' : n.toNat = mlen q n * 2 ^ dep q n := h3
  have R := ntt_ring hq hd
  have lo := hq.lo
  have ho := over_ok hq hd
  refine ni_extL (by rw [fromL_len hq hd, hL]) fun p hp => ?_
  rw [fromL_len hq hd] at hp
  have h := fro_there R (rt_inv hq hd) (ni L) p (by rw [← h3']; exact hp)
  have hf : ni (fromL q n (toL q n L)) p = ni (froL q (irt q n) (ni (toL q n L)) (mlen q n) (dep q n) 0) p * (over q n % q) % q := by
    unfold fromL
    rw [ni_get (by rw [List.length_map, froL_len, ← h3']; exact hp), ni_get (by rw [froL_len, ← h3']; exact hp)]
    simp
  rw [hf]
  have hx : Eqm q (ni (froL q (irt q n) (ni (toL q n L)) (mlen q n) (dep q n) 0) p * (over q n % q)) (ni L p) := by
    refine (h.mul (Eqm.mod _ _)).trans ?_
    show Eqm q (2 ^ dep q n * ni L p * over q n) (ni L p)
    rw [show (2 : Int) ^ dep q n = ((2 ^ dep q n : Nat) : Int) by simp, Int.mul_right_comm]
    exact (ho.mul Eqm.rfl).trans (Eqm.of (Int.one_mul _))
  have a := mods_at hm (j := p) (by omega)
  rw [show _ % q = _ from hx]
  exact Int.emod_eq_of_lt a.1 a.2
/-- THERE FROM BACK. -/
theorem to_from {q n : Int} (hq : Right q) (hd : Deg n) {L : List Int} (hL : L.length = n.toNat) (hm : Mods q L) : toL q n (fromL q n L) = L := by
  obtain ⟨_, _, h3, h4, _⟩ := dep_ok hq hd
  have h3' : n.toNat = mlen q n * 2 ^ dep q n := h3
  have R := ntt_ring hq hd
  have lo := hq.lo
  have ho := over_ok hq hd
  refine ni_extL (by rw [toL_len hq hd, hL]) fun p hp => ?_
  have ht := toL_mods hq hd (fromL q n L)
  have b := mods_at ht hp
  rw [toL_len hq hd] at hp
  have hx := there_fro R (rt_inv hq hd) (ni L) (ni (fromL q n L)) (over q n) (fun t ht => by
    have hf : ni (fromL q n L) t = ni (froL q (irt q n) (ni L) (mlen q n) (dep q n) 0) t * (over q n % q) % q := by
      unfold fromL
      rw [ni_get (by rw [List.length_map, froL_len]; exact ht), ni_get (by rw [froL_len]; exact ht)]
      simp
    rw [hf]
    refine (Eqm.mod _ _).trans ((Eqm.rfl.mul (Eqm.mod _ _)).trans (Eqm.of ?_))
    show _ * over q n = over q n * _
    exact Int.mul_comm _ _) p (by rw [← h3']; exact hp)
  have hy : Eqm q (ni (toL q n (fromL q n L)) p) (ni L p) := by
    refine hx.trans ?_
    show Eqm q (over q n * 2 ^ dep q n * ni L p) (ni L p)
    rw [show (2 : Int) ^ dep q n = ((2 ^ dep q n : Nat) : Int) by simp, Int.mul_comm (over q n)]
    exact (ho.mul Eqm.rfl).trans (Eqm.of (Int.one_mul _))
  have a := mods_at hm (j := p) (by omega)
  exact hy.eq b.1 b.2 a.1 a.2
end Zab.YtcebddjidpbhgaaDoorB
