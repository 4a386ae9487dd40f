/- States that differ stay apart: a round of chapter 4 is one to one. No program in sight. -/
import Derived.Test.YtjofbapkeojifaaZabKec
namespace Zab
set_option linter.unusedVariables false
set_option linter.unusedSimpArgs false

theorem cases25 {p : Nat → Prop} (h : ∀ k, (k = 0 ∨ k = 1 ∨ k = 2 ∨ k = 3 ∨ k = 4 ∨ k = 5 ∨ k = 6 ∨ k = 7 ∨ k = 8 ∨ k = 9 ∨ k = 10 ∨ k = 11 ∨ k = 12 ∨ k = 13 ∨ k = 14 ∨ k = 15 ∨ k = 16 ∨ k = 17 ∨ k = 18 ∨ k = 19 ∨ k = 20 ∨ k = 21 ∨ k = 22 ∨ k = 23 ∨ k = 24) → p k) (k : Nat) (hk : k < 25) : p k := h k (by omega)

theorem theB_at (L C : List Ln) (k : Nat) (hk : k < 25) : nl (theB L C 25) (place (k % 5) (k / 5)) = rot (nl L k ^^^ theD C (k % 5)) (tn (k % 5) (k / 5)) := by
  refine cases25 (p := fun k => nl (theB L C 25) (place (k % 5) (k / 5)) = rot (nl L k ^^^ theD C (k % 5)) (tn (k % 5) (k / 5))) (fun k h => ?_) k hk
  rcases h with rfl | rfl | rfl | rfl | rfl | rfl | rfl | rfl | rfl | rfl | rfl | rfl | rfl | rfl | rfl | rfl | rfl | rfl | rfl | rfl | rfl | rfl | rfl | rfl | rfl
  all_goals kernel_rfl
theorem theO_at (B : List Ln) (k : Nat) (hk : k < 25) : nl (theO B 25) k = chi B (k % 5) (k / 5) := by
  refine cases25 (p := fun k => nl (theO B 25) k = chi B (k % 5) (k / 5)) (fun k h => ?_) k hk
  rcases h with rfl | rfl | rfl | rfl | rfl | rfl | rfl | rfl | rfl | rfl | rfl | rfl | rfl | rfl | rfl | rfl | rfl | rfl | rfl | rfl | rfl | rfl | rfl | rfl | rfl
  all_goals kernel_rfl
theorem theC_at (L : List Ln) (x : Nat) (hx : x < 5) : nl (theC L 25) x = 0 ^^^ nl L x ^^^ nl L (x + 5) ^^^ nl L (x + 10) ^^^ nl L (x + 15) ^^^ nl L (x + 20) := by
  have h0 : nl (theC L 25) 0 = 0 ^^^ nl L 0 ^^^ nl L 5 ^^^ nl L 10 ^^^ nl L 15 ^^^ nl L 20 := by kernel_rfl
  have h1 : nl (theC L 25) 1 = 0 ^^^ nl L 1 ^^^ nl L 6 ^^^ nl L 11 ^^^ nl L 16 ^^^ nl L 21 := by kernel_rfl
  have h2 : nl (theC L 25) 2 = 0 ^^^ nl L 2 ^^^ nl L 7 ^^^ nl L 12 ^^^ nl L 17 ^^^ nl L 22 := by kernel_rfl
  have h3 : nl (theC L 25) 3 = 0 ^^^ nl L 3 ^^^ nl L 8 ^^^ nl L 13 ^^^ nl L 18 ^^^ nl L 23 := by kernel_rfl
  have h4 : nl (theC L 25) 4 = 0 ^^^ nl L 4 ^^^ nl L 9 ^^^ nl L 14 ^^^ nl L 19 ^^^ nl L 24 := by kernel_rfl
  have h : x = 0 ∨ x = 1 ∨ x = 2 ∨ x = 3 ∨ x = 4 := by omega
  rcases h with h | h | h | h | h <;> subst h
  · exact h0
  · exact h1
  · exact h2
  · exact h3
  · exact h4

theorem tn_lt (x y : Nat) (hx : x < 5) (hy : y < 5) : tn x y < 64 := by
  have h : ∀ a : Fin 5, ∀ b : Fin 5, tn a.val b.val < 64 := by decide +kernel
  exact h ⟨x, hx⟩ ⟨y, hy⟩

theorem chi5 : ∀ a0 a1 a2 a3 a4 b0 b1 b2 b3 b4 : Bool, (a0 ^^ (!a1 && a2)) = (b0 ^^ (!b1 && b2)) → (a1 ^^ (!a2 && a3)) = (b1 ^^ (!b2 && b3)) → (a2 ^^ (!a3 && a4)) = (b2 ^^ (!b3 && b4)) →
    (a3 ^^ (!a4 && a0)) = (b3 ^^ (!b4 && b0)) → (a4 ^^ (!a0 && a1)) = (b4 ^^ (!b0 && b1)) → a0 = b0 ∧ a1 = b1 ∧ a2 = b2 ∧ a3 = b3 ∧ a4 = b4 := by decide

theorem chi_bit (B : List Ln) (x y i : Nat) (hi : i < 64) : (chi B x y).getLsbD i = ((nl B (x + 5 * y)).getLsbD i ^^ (!(nl B ((x + 1) % 5 + 5 * y)).getLsbD i && (nl B ((x + 2) % 5 + 5 * y)).getLsbD i)) := by
  unfold chi
  rw [BitVec.getLsbD_xor, BitVec.getLsbD_and, BitVec.getLsbD_not]
  simp [hi]

theorem chi_inj {B D : List Ln} {y : Nat} (h : ∀ x, x < 5 → chi B x y = chi D x y) : ∀ x, x < 5 → nl B (x + 5 * y) = nl D (x + 5 * y) := by
  have key : ∀ i, i < 64 → ∀ x, x < 5 → (nl B (x + 5 * y)).getLsbD i = (nl D (x + 5 * y)).getLsbD i := by
    intro i hi
    have e : ∀ x, x < 5 → ((nl B (x + 5 * y)).getLsbD i ^^ (!(nl B ((x + 1) % 5 + 5 * y)).getLsbD i && (nl B ((x + 2) % 5 + 5 * y)).getLsbD i)) = ((nl D (x + 5 * y)).getLsbD i ^^ (!(nl D ((x + 1) % 5 + 5 * y)).getLsbD i && (nl D ((x + 2) % 5 + 5 * y)).getLsbD i)) := by
      intro x hx
      rw [← chi_bit B x y i hi, ← chi_bit D x y i hi, h x hx]
    obtain ⟨g0, g1, g2, g3, g4⟩ := chi5 _ _ _ _ _ _ _ _ _ _ (e 0 (by omega)) (e 1 (by omega)) (e 2 (by omega)) (e 3 (by omega)) (e 4 (by omega))
    intro x hx
    have hx5 : x = 0 ∨ x = 1 ∨ x = 2 ∨ x = 3 ∨ x = 4 := by omega
    rcases hx5 with rfl | rfl | rfl | rfl | rfl
    · exact g0
    · exact g1
    · exact g2
    · exact g3
    · exact g4
  intro x hx
  exact BitVec.eq_of_getLsbD_eq fun i hi => key i hi x hx

theorem rot_rot (x : Ln) {k : Nat} (h : k + k < 64) : rot (rot x k) k = rot x (k + k) := by
  apply BitVec.eq_of_getLsbD_eq
  intro i hi
  rw [rot_bit _ (by omega) hi, rot_bit _ (by omega) (by omega), rot_bit _ h hi]
  congr 1
  omega
theorem rot_32 (x : Ln) : rot (rot x 32) 32 = x := by
  apply BitVec.eq_of_getLsbD_eq
  intro i hi
  rw [rot_bit _ (by omega) hi, rot_bit _ (by omega) (by omega)]
  congr 1
  omega
theorem rot_x {x y : Ln} {n : Nat} (h : n < 64) : rot (x ^^^ y) n = rot x n ^^^ rot y n := by
  rcases rot_xor x y n with e | e
  · exact e
  · omega

theorem twice {P : Nat → Ln} (h5 : ∀ x, P (x + 5) = P x) {k : Nat} (hk : k < 64) (h : ∀ x, P x = P (x + 4 * k) ^^^ rot (P (x + k)) k) (x : Nat) : P x = P (x + 8 * k) ^^^ rot (rot (P (x + 2 * k)) k) k := by
  have per : ∀ m x, P (x + 5 * m) = P x := by
    intro m
    induction m with
    | zero => intro x; rfl
    | succ m ih => intro x; rw [show x + 5 * (m + 1) = (x + 5 * m) + 5 by omega, h5, ih]
  have e1 : P (x + 4 * k) = P (x + 8 * k) ^^^ rot (P x) k := by
    have := h (x + 4 * k)
    rw [show x + 4 * k + 4 * k = x + 8 * k by omega, show x + 4 * k + k = x + 5 * k by omega, per] at this
    exact this
  have e2 : P (x + k) = P x ^^^ rot (P (x + 2 * k)) k := by
    have := h (x + k)
    rw [show x + k + 4 * k = x + 5 * k by omega, show x + k + k = x + 2 * k by omega, per] at this
    exact this
  have e3 := h x
  rw [e1, e2, rot_x hk] at e3
  rw [e3]
  generalize P (x + 8 * k) = a
  generalize rot (P x) k = b
  generalize rot (rot (P (x + 2 * k)) k) k = c
  apply BitVec.eq_of_getLsbD_eq
  intro i hi
  simp only [BitVec.getLsbD_xor]
  cases a.getLsbD i <;> cases b.getLsbD i <;> cases c.getLsbD i <;> rfl

theorem fib5 : ∀ p0 p1 p2 p3 p4 : Bool, p0 = (p1 ^^ p4) → p1 = (p2 ^^ p0) → p2 = (p3 ^^ p1) → p3 = (p4 ^^ p2) → p4 = (p0 ^^ p3) → p0 = false ∧ p1 = false ∧ p2 = false ∧ p3 = false ∧ p4 = false := by decide

theorem all_zero {P : Nat → Ln} (h5 : ∀ x, P (x + 5) = P x) (h : ∀ x, P x = P (x + 4) ^^^ rot (P (x + 1)) 1) : ∀ x, x < 5 → P x = 0 := by
  have s1 : ∀ x, P x = P (x + 4 * 1) ^^^ rot (P (x + 1)) 1 := h
  have s2 : ∀ x, P x = P (x + 4 * 2) ^^^ rot (P (x + 2)) 2 := fun x => by have := twice h5 (by omega) s1 x; rwa [rot_rot _ (by omega)] at this
  have s4 : ∀ x, P x = P (x + 4 * 4) ^^^ rot (P (x + 4)) 4 := fun x => by have := twice h5 (by omega) s2 x; rwa [rot_rot _ (by omega)] at this
  have s8 : ∀ x, P x = P (x + 4 * 8) ^^^ rot (P (x + 8)) 8 := fun x => by have := twice h5 (by omega) s4 x; rwa [rot_rot _ (by omega)] at this
  have s16 : ∀ x, P x = P (x + 4 * 16) ^^^ rot (P (x + 16)) 16 := fun x => by have := twice h5 (by omega) s8 x; rwa [rot_rot _ (by omega)] at this
  have s32 : ∀ x, P x = P (x + 4 * 32) ^^^ rot (P (x + 32)) 32 := fun x => by have := twice h5 (by omega) s16 x; rwa [rot_rot _ (by omega)] at this
  have s64 : ∀ x, P x = P (x + 256) ^^^ P (x + 64) := fun x => by have := twice h5 (by omega) s32 x; rwa [rot_32] at this
  have per : ∀ m x, P (x + 5 * m) = P x := by
    intro m
    induction m with
    | zero => intro x; rfl
    | succ m ih => intro x; rw [show x + 5 * (m + 1) = (x + 5 * m) + 5 by omega, h5, ih]
  have f : ∀ x, P x = P (x + 1) ^^^ P (x + 4) := fun x => by
    have := s64 x
    rw [show x + 256 = (x + 1) + 5 * 51 by omega, per, show x + 64 = (x + 4) + 5 * 12 by omega, per] at this
    exact this
  have f0 := f 0
  have f1 := f 1
  have f2 := f 2
  have f3 := f 3
  have f4 := f 4
  rw [show 1 + 4 = 0 + 5 from rfl, h5] at f1
  rw [show 2 + 4 = 1 + 5 from rfl, h5] at f2
  rw [show 3 + 4 = 2 + 5 from rfl, h5] at f3
  rw [show 4 + 1 = 0 + 5 from rfl, h5, show 4 + 4 = 3 + 5 from rfl, h5] at f4
  intro x hx
  apply BitVec.eq_of_getLsbD_eq
  intro i hi
  have bit : ∀ {a b c : Ln}, a = b ^^^ c → a.getLsbD i = (b.getLsbD i ^^ c.getLsbD i) := fun h => by rw [h, BitVec.getLsbD_xor]
  obtain ⟨g0, g1, g2, g3, g4⟩ := fib5 _ _ _ _ _ (bit f0) (bit f1) (bit f2) (bit f3) (bit f4)
  have hx5 : x = 0 ∨ x = 1 ∨ x = 2 ∨ x = 3 ∨ x = 4 := by omega
  have z : (0 : Ln).getLsbD i = false := by simp
  rw [z]
  rcases hx5 with h | h | h | h | h <;> subst h
  · exact g0
  · exact g1
  · exact g2
  · exact g3
  · exact g4

theorem xor_move {a b c d : Ln} (h : a ^^^ b = c ^^^ d) : a ^^^ c = b ^^^ d := by
  apply BitVec.eq_of_getLsbD_eq
  intro i hi
  have := congrArg (fun z => z.getLsbD i) h
  simp only [BitVec.getLsbD_xor] at this ⊢
  revert this
  cases a.getLsbD i <;> cases b.getLsbD i <;> cases c.getLsbD i <;> cases d.getLsbD i <;> simp

theorem base_inj {L M : List Ln} (hL : L.length = 25) (hM : M.length = 25) (h : base L = base M) : L = M := by
  unfold base at h
  -- the rows
  have h1 : ∀ j, j < 25 → nl (theB L (theC L 25) 25) j = nl (theB M (theC M 25) 25) j := by
    intro j hj
    have := chi_inj (B := theB L (theC L 25) 25) (D := theB M (theC M 25) 25) (y := j / 5) (fun x hx => by
      have e1 := theO_at (theB L (theC L 25) 25) (x + 5 * (j / 5)) (by omega)
      have e2 := theO_at (theB M (theC M 25) 25) (x + 5 * (j / 5)) (by omega)
      rw [show (x + 5 * (j / 5)) % 5 = x by omega, show (x + 5 * (j / 5)) / 5 = j / 5 by omega] at e1 e2
      rw [← e1, ← e2, h]) (j % 5) (by omega)
    rwa [show j % 5 + 5 * (j / 5) = j by omega] at this
  -- the lanes, turned
  have h2 : ∀ k, k < 25 → nl L k ^^^ nl M k = theD (theC L 25) (k % 5) ^^^ theD (theC M 25) (k % 5) := by
    intro k hk
    have e := h1 (place (k % 5) (k / 5)) (by unfold place; omega)
    rw [theB_at _ _ k hk, theB_at _ _ k hk] at e
    exact xor_move (rot_inj (tn_lt _ _ (by omega) (by omega)) e)
  -- the columns
  have hP : ∀ x, x < 5 → nl (theC L 25) x ^^^ nl (theC M 25) x = theD (theC L 25) x ^^^ theD (theC M 25) x := by
    intro x hx
    rw [theC_at L x hx, theC_at M x hx]
    have a0 := h2 x (by omega)
    have a1 := h2 (x + 5) (by omega)
    have a2 := h2 (x + 10) (by omega)
    have a3 := h2 (x + 15) (by omega)
    have a4 := h2 (x + 20) (by omega)
    rw [show x % 5 = x by omega] at a0
    rw [show (x + 5) % 5 = x by omega] at a1
    rw [show (x + 10) % 5 = x by omega] at a2
    rw [show (x + 15) % 5 = x by omega] at a3
    rw [show (x + 20) % 5 = x by omega] at a4
    generalize theD (theC L 25) x ^^^ theD (theC M 25) x = E at *
    apply BitVec.eq_of_getLsbD_eq
    intro i hi
    have bit : ∀ {a b c : Ln}, a ^^^ b = c → (a.getLsbD i ^^ b.getLsbD i) = c.getLsbD i := fun h => by rw [← h, BitVec.getLsbD_xor]
    have b0 := bit a0
    have b1 := bit a1
    have b2 := bit a2
    have b3 := bit a3
    have b4 := bit a4
    have key : ∀ p0 q0 p1 q1 p2 q2 p3 q3 p4 q4 e : Bool, (p0 ^^ q0) = e → (p1 ^^ q1) = e → (p2 ^^ q2) = e → (p3 ^^ q3) = e → (p4 ^^ q4) = e → ((((((false ^^ p0) ^^ p1) ^^ p2) ^^ p3) ^^ p4) ^^ (((((false ^^ q0) ^^ q1) ^^ q2) ^^ q3) ^^ q4)) = e := by decide
    have := key _ _ _ _ _ _ _ _ _ _ _ b0 b1 b2 b3 b4
    simp only [BitVec.getLsbD_xor]
    rw [show (0 : Ln).getLsbD i = false by simp]
    exact this
  have hz := all_zero (P := fun x => nl (theC L 25) (x % 5) ^^^ nl (theC M 25) (x % 5)) (fun x => by simp) (fun x => by
    show nl (theC L 25) (x % 5) ^^^ nl (theC M 25) (x % 5) = _
    rw [hP (x % 5) (by omega), rot_x (by omega)]
    unfold theD
    rw [show (x % 5 + 4) % 5 = (x + 4) % 5 by omega, show (x % 5 + 1) % 5 = (x + 1) % 5 by omega]
    generalize nl (theC L 25) ((x + 4) % 5) = a
    generalize nl (theC M 25) ((x + 4) % 5) = b
    generalize rot (nl (theC L 25) ((x + 1) % 5)) 1 = c
    generalize rot (nl (theC M 25) ((x + 1) % 5)) 1 = d
    apply BitVec.eq_of_getLsbD_eq
    intro i hi
    simp only [BitVec.getLsbD_xor]
    cases a.getLsbD i <;> cases b.getLsbD i <;> cases c.getLsbD i <;> cases d.getLsbD i <;> rfl)
  apply List.ext_getElem (by omega)
  intro j p q
  have hj := h2 j (by omega)
  rw [← hP (j % 5) (by omega)] at hj
  have := hz (j % 5) (by omega)
  simp only [Nat.mod_mod] at this
  rw [this] at hj
  rw [← nl_get p, ← nl_get q]
  have : nl L j ^^^ nl M j ^^^ nl M j = 0 ^^^ nl M j := by rw [hj]
  rw [BitVec.xor_assoc, BitVec.xor_self] at this
  simpa using this

theorem rnd_inj {L M : List Ln} (hL : L.length = 25) (hM : M.length = 25) {c : Ln} (h : rnd L c = rnd M c) : L = M := by
  refine base_inj hL hM ?_
  unfold rnd at h
  have l1 := base_len L
  have l2 := base_len M
  apply List.ext_getElem (by omega)
  intro j p q
  have e : ((base L).set 0 (nl (base L) 0 ^^^ c))[j]'(by simpa using p) = ((base M).set 0 (nl (base M) 0 ^^^ c))[j]'(by simpa using q) := by simp only [h]
  by_cases hj : j = 0
  · subst hj
    simp only [List.getElem_set_self] at e
    rw [← nl_get p, ← nl_get q]
    have e2 : nl (base L) 0 ^^^ c ^^^ c = nl (base M) 0 ^^^ c ^^^ c := by rw [e]
    simpa [BitVec.xor_assoc] using e2
  · simpa [List.getElem_set, show ¬ 0 = j from fun h => hj h.symm] using e

end Zab
