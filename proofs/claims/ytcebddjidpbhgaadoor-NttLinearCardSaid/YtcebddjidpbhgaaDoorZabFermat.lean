/- Fermat's little theorem, for primes that are told by trial. No program in sight. -/
namespace Zab.Fermat
set_option linter.unusedVariables false

def ch : Nat → Nat → Nat
  | _, 0 => 1
  | 0, _ + 1 => 0
  | n + 1, k + 1 => ch n k + ch n (k + 1)

theorem ch_zero (n : Nat) : ch n 0 = 1 := by cases n <;> rfl
theorem ch_gt : ∀ n k, n < k → ch n k = 0
  | 0, 0, h => by omega
  | 0, _ + 1, _ => rfl
  | n + 1, 0, h => by omega
  | n + 1, k + 1, h => by simp [ch, ch_gt n k (by omega), ch_gt n (k + 1) (by omega)]
theorem ch_self : ∀ n, ch n n = 1
  | 0 => rfl
  | n + 1 => by simp [ch, ch_self n, ch_gt n (n + 1) (by omega)]

theorem ch_mul : ∀ n k, (k + 1) * ch (n + 1) (k + 1) = (n + 1) * ch n k
  | 0, 0 => rfl
  | 0, k + 1 => by simp [ch]
  | n + 1, 0 => by
    have h := ch_mul n 0
    simp only [ch, ch_zero] at h ⊢
    omega
  | n + 1, k + 1 => by
    have h1 := ch_mul n (k + 1)
    have h2 := ch_mul n k
    have e1 : ch (n + 2) (k + 2) = ch (n + 1) (k + 1) + ch (n + 1) (k + 2) := rfl
    have e2 : ch (n + 1) (k + 1) = ch n k + ch n (k + 1) := rfl
    show (k + 2) * ch (n + 2) (k + 2) = (n + 2) * ch (n + 1) (k + 1)
    have h1' : (k + 2) * ch (n + 1) (k + 2) = (n + 1) * ch n (k + 1) := h1
    rw [e1, Nat.mul_add, h1']
    have h3 : (k + 2) * ch (n + 1) (k + 1) = ch (n + 1) (k + 1) + (n + 1) * ch n k := by
      rw [← h2, Nat.add_mul, Nat.add_mul]; omega
    have h4 : (n + 2) * ch (n + 1) (k + 1) = ch (n + 1) (k + 1) + ((n + 1) * ch n k + (n + 1) * ch n (k + 1)) := by
      rw [← Nat.mul_add, ← e2, Nat.add_mul, Nat.add_mul]; omega
    omega

def S (n x : Nat) : Nat → Nat
  | 0 => 0
  | m + 1 => S n x m + ch n m * x ^ m

theorem S_step (n x : Nat) : ∀ m, S (n + 1) x (m + 1) = S n x (m + 1) + x * S n x m
  | 0 => by simp [S, ch, ch_zero]
  | m + 1 => by
    have ih := S_step n x m
    have e : S (n + 1) x (m + 2) = S (n + 1) x (m + 1) + ch (n + 1) (m + 1) * x ^ (m + 1) := rfl
    have e1 : S n x (m + 2) = S n x (m + 1) + ch n (m + 1) * x ^ (m + 1) := rfl
    have e2 : S n x (m + 1) = S n x m + ch n m * x ^ m := rfl
    rw [e, ih, e1]
    have e3 : ch (n + 1) (m + 1) = ch n m + ch n (m + 1) := rfl
    have e4 : x * S n x (m + 1) = x * S n x m + ch n m * x ^ (m + 1) := by
      rw [e2, Nat.mul_add, Nat.pow_succ]
      congr 1
      rw [Nat.mul_comm x, Nat.mul_assoc]
    rw [e3, e4, Nat.add_mul]; omega

theorem S_pow (x : Nat) : ∀ n, (x + 1) ^ n = S n x (n + 1)
  | 0 => by simp [S, ch]
  | n + 1 => by
    rw [Nat.pow_succ, S_pow x n, S_step]
    have : S n x (n + 2) = S n x (n + 1) := by
      show S n x (n + 1) + ch n (n + 1) * x ^ (n + 1) = _
      rw [ch_gt n (n + 1) (by omega)]; omega
    rw [this, Nat.mul_add, Nat.mul_one, Nat.mul_comm]; omega

/-- Nothing but 1 and p divides it. -/
def Pr (p : Nat) : Prop := 2 ≤ p ∧ ∀ m, m ∣ p → m = 1 ∨ m = p

theorem Pr.cop {p : Nat} (h : Pr p) {k : Nat} (h0 : ¬ p ∣ k) : Nat.Coprime p k := by
  rcases h.2 _ (Nat.gcd_dvd_left p k) with e | e
  · exact e
  · exact absurd (e ▸ Nat.gcd_dvd_right p k) h0

theorem Pr.ch {p : Nat} (h : Pr p) {k : Nat} (h1 : 0 < k) (h2 : k < p) : p ∣ ch p k := by
  obtain ⟨n, rfl⟩ : ∃ n, p = n + 1 := ⟨p - 1, by omega⟩
  obtain ⟨j, rfl⟩ : ∃ j, k = j + 1 := ⟨k - 1, by omega⟩
  have e := ch_mul n j
  have hd : n + 1 ∣ (j + 1) * Fermat.ch (n + 1) (j + 1) := ⟨_, e⟩
  exact (h.cop fun hh => by have := Nat.le_of_dvd (by omega) hh; omega).dvd_of_dvd_mul_left hd

theorem S_mod {p : Nat} (h : Pr p) (x : Nat) : ∀ m, m < p → S p x (m + 1) % p = 1 % p
  | 0, _ => by simp [S, ch_zero]
  | m + 1, hm => by
    show (S p x (m + 1) + ch p (m + 1) * x ^ (m + 1)) % p = _
    obtain ⟨c, hc⟩ := h.ch (k := m + 1) (by omega) hm
    rw [hc, Nat.mul_assoc, Nat.add_mul_mod_self_left, S_mod h x m (by omega)]

theorem nat_fermat {p : Nat} (h : Pr p) : ∀ x, x ^ p % p = x % p
  | 0 => by rw [Nat.zero_pow (by have := h.1; omega)]
  | x + 1 => by
    have h2 := h.1
    rw [S_pow]
    show (S p x p + ch p p * x ^ p) % p = _
    rw [ch_self, Nat.one_mul, Nat.add_mod, nat_fermat h x]
    obtain ⟨n, rfl⟩ : ∃ n, p = n + 1 := ⟨p - 1, by omega⟩
    rw [S_mod h x n (by omega), ← Nat.add_mod, Nat.add_comm]

/-- No number from 2 on, below a bound, divides. -/
def none2 (p : Nat) : Nat → Bool
  | 0 => true
  | m + 1 => (Nat.ble m 1 || !Nat.beq (p % m) 0) && none2 p m

theorem none2_ok {p : Nat} : ∀ {b : Nat}, none2 p b = true → ∀ m, 2 ≤ m → m < b → ¬ m ∣ p
  | 0, _, m, _, hm, _ => by omega
  | b + 1, h, m, h2, hm, hd => by
    simp only [none2, Bool.and_eq_true, Bool.or_eq_true, Nat.ble_eq, Bool.not_eq_true'] at h
    by_cases e : m = b
    · subst e
      rcases h.1 with h | h
      · omega
      · have : p % m = 0 := Nat.mod_eq_zero_of_dvd hd
        simp [this] at h
    · exact none2_ok h.2 m h2 (by omega) hd

theorem pr_of {p b : Nat} (h2 : 2 ≤ p) (h : none2 p b = true) (hb : p < b * b) : Pr p := by
  refine ⟨h2, fun m ⟨c, hc⟩ => ?_⟩
  have hm0 : m ≠ 0 := by rintro rfl; omega
  have hc0 : c ≠ 0 := by rintro rfl; omega
  by_cases h1 : m = 1
  · exact .inl h1
  · by_cases h3 : c = 1
    · subst h3; right; omega
    · exfalso
      by_cases h4 : m < b
      · exact none2_ok h m (by omega) h4 ⟨c, hc⟩
      · have h5 : c < b := by
          apply Nat.lt_of_not_le
          intro h5
          have := Nat.mul_le_mul (Nat.le_of_not_lt h4) h5
          omega
        exact none2_ok h c (by omega) h5 ⟨m, by rw [Nat.mul_comm]; exact hc⟩

/-! ### Of whole numbers -/

theorem int_nat (a : Int) {p : Nat} (hp : 0 < p) (n : Nat) : a ^ n % p = (((a % p).toNat ^ n % p : Nat) : Int) := by
  have e : ((a % p).toNat : Int) = a % p := Int.toNat_of_nonneg (Int.emod_nonneg _ (by omega))
  have key : ∀ n : Nat, a ^ n % p = (a % p) ^ n % p := by
    intro n
    induction n with
    | zero => simp
    | succ n ih => rw [Int.pow_succ, Int.pow_succ, Int.mul_emod, ih, Int.mul_emod ((a % p) ^ n), Int.emod_emod]
  rw [key, ← e]
  simp [Int.natCast_pow]

theorem fermat {p : Nat} (h : Pr p) (a : Int) : a ^ p % p = a % p := by
  have h2 := h.1
  have e : ((a % p).toNat : Int) = a % p := Int.toNat_of_nonneg (Int.emod_nonneg _ (by omega))
  rw [int_nat a (by omega), nat_fermat h]
  have hlt := Int.emod_lt_of_pos a (show (0 : Int) < p by omega)
  have hge := Int.emod_nonneg a (show (p : Int) ≠ 0 by omega)
  rw [Nat.mod_eq_of_lt (by omega), e]

theorem dvd_mul {p : Nat} (h : Pr p) {a b : Int} (hd : (p : Int) ∣ a * b) (ha : ¬ (p : Int) ∣ a) : (p : Int) ∣ b := by
  have key : ∀ c : Int, (p : Int) ∣ c ↔ p ∣ c.natAbs := fun c => by rw [← Int.natAbs_dvd_natAbs]; simp
  have h1 : p ∣ a.natAbs * b.natAbs := by rw [← Int.natAbs_mul]; exact (key _).1 hd
  have h2 : ¬ p ∣ a.natAbs := fun hh => ha ((key _).2 hh)
  exact (key _).2 ((h.cop h2).dvd_of_dvd_mul_left h1)

theorem fermat1 {p : Nat} (h : Pr p) {a : Int} (ha : a % p ≠ 0) : a ^ (p - 1) % p = 1 := by
  have h2 := h.1
  obtain ⟨n, rfl⟩ : ∃ n, p = n + 1 := ⟨p - 1, by omega⟩
  have hf := fermat h a
  have hd : ((n + 1 : Nat) : Int) ∣ a * (a ^ n - 1) := by
    rw [Int.mul_sub, Int.mul_one, Int.mul_comm, ← Int.pow_succ]
    exact Int.dvd_of_emod_eq_zero (Int.emod_eq_emod_iff_emod_sub_eq_zero.1 hf)
  have := dvd_mul h hd (fun hh => ha (Int.emod_eq_zero_of_dvd hh))
  show a ^ n % _ = 1
  have e := Int.emod_eq_emod_iff_emod_sub_eq_zero.2 (Int.emod_eq_zero_of_dvd this)
  rw [e]
  exact Int.emod_eq_of_lt (by omega) (by omega)

theorem inv_ok {p : Nat} (h : Pr p) {a : Int} (ha : a % p ≠ 0) : a * (a ^ (p - 2) % p) % p = 1 := by
  have h2 := h.1
  rw [Int.mul_emod, Int.emod_emod, ← Int.mul_emod, Int.mul_comm, ← Int.pow_succ]
  have e : p - 2 + 1 = p - 1 := by omega
  have := fermat1 h ha
  rw [← e] at this
  exact this

theorem pr17 : Pr 17 := pr_of (b := 5) (by decide) (by decide) (by decide)
theorem pr97 : Pr 97 := pr_of (b := 10) (by decide) (by decide) (by decide)
theorem pr257 : Pr 257 := pr_of (b := 17) (by decide) (by decide) (by decide)
theorem pr3329 : Pr 3329 := pr_of (b := 58) (by decide) (by decide) (by decide)
theorem pr7681 : Pr 7681 := pr_of (b := 88) (by decide) (by decide) (by decide)
theorem pr12289 : Pr 12289 := pr_of (b := 111) (by decide) (by decide) (by decide)
theorem pr8380417 : Pr 8380417 := pr_of (b := 2895) (by decide) (by decide +kernel) (by decide)

end Zab.Fermat
