/- The permutation of chapter 4 over lists of 64-bit words. No program in sight, but for the machine's numbers. -/
import Derived.Test.YtbmhaamjajoggaaDoorZabG6
import Derived.Test.YtbmhaamjajoggaaDoorZabG7
import Derived.KernelRfl
namespace Zab
open Go
set_option linter.unusedVariables false
set_option linter.unusedSimpArgs false

abbrev Ln := BitVec 64

def iv (x : Ln) : Int := (x.toNat : Int)
theorem iv_inj {x y : Ln} : iv x = iv y ↔ x = y := by simp only [iv, Int.natCast_inj, BitVec.toNat_inj]
theorem iv_ok (x : Ln) : 0 ≤ iv x ∧ iv x < 18446744073709551616 := by have := x.isLt; unfold iv; omega

def nl (L : List Ln) (j : Nat) : Ln := L.getD j 0
theorem nl_get {L : List Ln} {j : Nat} (h : j < L.length) : nl L j = L[j] := by simp [nl, h]
def lanes (L : List Ln) : List AV := L.map fun x => .i .u64 (iv x)
theorem lanes_length (L : List Ln) : (lanes L).length = L.length := by simp [lanes]
theorem lanes_get {L : List Ln} {j : Nat} (h : j < L.length) : (lanes L)[j]? = some (.i .u64 (iv (nl L j))) := by simp [lanes, nl, h]
theorem lanes_set (L : List Ln) (j : Nat) (x : Ln) : (lanes L).set j (.i .u64 (iv x)) = lanes (L.set j x) := by simp [lanes, List.map_set]
theorem lanes_hasSl : ∀ (L : List Ln), hasSlL (lanes L) = false
  | [] => rfl
  | x :: L => by simp only [lanes, List.map_cons, hasSlL, hasSl1, Bool.false_or]; exact lanes_hasSl L

theorem lanes_of {n : Nat} {l : List AV} (h : ∃ xs : List (List AV), xs.length = n ∧ (∀ x ∈ xs, ∃ m, x = [.i .u64 m] ∧ inK .u64 m) ∧ l = xs.flatten) : ∃ L : List Ln, L.length = n ∧ l = lanes L := by
  obtain ⟨xs, h1, h2, rfl⟩ := h
  obtain ⟨L, h3, h4, h5⟩ := singles xs h2
  refine ⟨L.map fun m => BitVec.ofInt 64 m, by simp [h3, h1], ?_⟩
  rw [h4]
  unfold nums lanes
  rw [List.map_map]
  apply List.map_congr_left
  intro m hm
  obtain ⟨p, q⟩ := h5 m hm
  have p' : 0 ≤ m := p
  have q' : m ≤ 18446744073709551615 := q
  simp only [Function.comp, iv]
  congr 1
  rw [BitVec.toNat_ofInt]
  omega
theorem wrap_u64 (x : Ln) : IntKind.u64.wrap (iv x) = iv x := by
  unfold iv
  have := x.isLt
  unfold IntKind.wrap
  simp only [IntKind.signed, IntKind.bits]
  simp
  omega

theorem ofInt_u64 (x : Ln) : BitVec.ofInt 64 (iv x) = x := by simp [iv]
theorem bitV_xor (x y : Ln) : bitV .xor .u64 (iv x) (iv y) = some (.i .u64 (iv (x ^^^ y))) := by
  simp only [bitV, IntKind.bits, ofInt_u64]
  exact congrArg (fun z => some (AV.i .u64 z)) (wrap_u64 (x ^^^ y))
theorem bitV_or (x y : Ln) : bitV .or .u64 (iv x) (iv y) = some (.i .u64 (iv (x ||| y))) := by
  simp only [bitV, IntKind.bits, ofInt_u64]
  exact congrArg (fun z => some (AV.i .u64 z)) (wrap_u64 (x ||| y))
theorem bitV_and (x y : Ln) : bitV .and .u64 (iv x) (iv y) = some (.i .u64 (iv (x &&& y))) := by
  simp only [bitV, IntKind.bits, ofInt_u64]
  exact congrArg (fun z => some (AV.i .u64 z)) (wrap_u64 (x &&& y))
theorem unV_not (x : Ln) : unV .xor (.i .u64 (iv x)) = some (.i .u64 (iv (~~~x))) := by
  simp only [unV, bitV]
  rw [show (if IntKind.u64.signed = true then -1 else IntKind.u64.max) = iv (BitVec.allOnes 64) from by decide]
  simp only [IntKind.bits, ofInt_u64]
  have e : BitVec.allOnes 64 ^^^ x = ~~~x := BitVec.allOnes_xor
  exact congrArg (fun z => some (AV.i .u64 z)) ((wrap_u64 (BitVec.allOnes 64 ^^^ x)).trans (by rw [e]))
theorem bitV_not (x : Ln) : bitV .xor .u64 (if IntKind.u64.signed = true then -1 else IntKind.u64.max) (iv x) = some (.i .u64 (iv (~~~x))) := unV_not x
theorem shl_u64 (x : Ln) {n : Nat} (h : n ≤ 64) : shiftV .shl .u64 (iv x) (n : Int) = some (.i .u64 (iv (x <<< n))) := by
  unfold iv
  have h0 : ¬ (n : Int) < 0 := by omega
  have e : min n 64 = n := by omega
  simp only [shiftV, IntKind.bits, Int.toNat_natCast, e]
  simp only [h0, decide_false, cond_false]
  congr 2
  unfold IntKind.wrap
  simp only [IntKind.signed, IntKind.bits, BitVec.toNat_shiftLeft, Nat.shiftLeft_eq]
  simp
theorem shr_u64 (x : Ln) {n : Nat} (h : n ≤ 64) : shiftV .shr .u64 (iv x) (n : Int) = some (.i .u64 (iv (x >>> n))) := by
  unfold iv
  have h0 : ¬ (n : Int) < 0 := by omega
  have e : min n 64 = n := by omega
  simp only [shiftV, IntKind.bits, Int.toNat_natCast, e]
  simp only [h0, decide_false, cond_false]
  congr 2
  simp only [BitVec.toNat_ushiftRight, Nat.shiftRight_eq_div_pow]
  have : ((2 : Int) ^ n) = ((2 ^ n : Nat) : Int) := by norm_cast
  rw [this, Int.fdiv_eq_ediv_of_nonneg _ (Int.natCast_nonneg _)]
  rfl

/-- Turned up by so many bits. -/
def rot (x : Ln) (n : Nat) : Ln := (x <<< n) ||| (x >>> (64 - n))


theorem rot_bit (x : Ln) {n : Nat} (h : n < 64) {i : Nat} (hi : i < 64) : (rot x n).getLsbD i = x.getLsbD ((i + (64 - n)) % 64) := by
  unfold rot
  simp only [BitVec.getLsbD_or, BitVec.getLsbD_shiftLeft, BitVec.getLsbD_ushiftRight]
  by_cases h1 : i < n
  · have : (i + (64 - n)) % 64 = 64 - n + i := by omega
    simp [h1, hi, this]
  · have : (i + (64 - n)) % 64 = i - n := by omega
    have h2 : x.getLsbD (64 - n + i) = false := BitVec.getLsbD_of_ge _ _ (by omega)
    simp [h1, hi, this, h2]

theorem rot_inj {x y : Ln} {n : Nat} (h : n < 64) (e : rot x n = rot y n) : x = y := by
  apply BitVec.eq_of_getLsbD_eq
  intro i hi
  have h1 := rot_bit x h (i := (i + n) % 64) (by omega)
  have h2 := rot_bit y h (i := (i + n) % 64) (by omega)
  have e1 : ((i + n) % 64 + (64 - n)) % 64 = i := by omega
  rw [e1] at h1 h2
  rw [← h1, ← h2, e]

theorem rot_xor (x y : Ln) (n : Nat) : rot (x ^^^ y) n = rot x n ^^^ rot y n ∨ 64 ≤ n := by
  by_cases h : n < 64
  · left
    apply BitVec.eq_of_getLsbD_eq
    intro i hi
    rw [rot_bit _ h hi, BitVec.getLsbD_xor, BitVec.getLsbD_xor, rot_bit _ h hi, rot_bit _ h hi]
  · right; omega

/-! ### The steps, as they are computed -/

def ab : Nat → Int × Int
  | 0 => (1, 0)
  | t + 1 => ((ab t).2, (2 * (ab t).1 + 3 * (ab t).2) % 5)

def turnAt (t : Nat) : Int := (t + 1) * (t + 2) / 2 % 64

/-- The first of these from t on, so many are left. -/
def turnF (x y : Int) : Nat → Nat → Int
  | _, 0 => 0
  | t, n + 1 => if (ab t).1 = x ∧ (ab t).2 = y then turnAt t else turnF x y (t + 1) n
def turn (x y : Int) : Int := turnF x y 0 24

def zL (n : Nat) : List Ln := List.replicate n 0
theorem zL_len (n : Nat) : (zL n).length = n := by simp [zL]
def theC (L : List Ln) : Nat → List Ln
  | 0 => zL 5
  | k + 1 => (theC L k).set (k % 5) (nl (theC L k) (k % 5) ^^^ nl L k)
def theD (C : List Ln) (x : Nat) : Ln := nl C ((x + 4) % 5) ^^^ rot (nl C ((x + 1) % 5)) 1
def place (x y : Nat) : Nat := y + 5 * ((2 * x + 3 * y) % 5)
def tn (x y : Nat) : Nat := (turn x y).toNat
def theB (L C : List Ln) : Nat → List Ln
  | 0 => zL 25
  | k + 1 => (theB L C k).set (place (k % 5) (k / 5)) (rot (nl L k ^^^ theD C (k % 5)) (tn (k % 5) (k / 5)))
def chi (B : List Ln) (x y : Nat) : Ln := nl B (x + 5 * y) ^^^ (~~~ nl B ((x + 1) % 5 + 5 * y) &&& nl B ((x + 2) % 5 + 5 * y))
def theO (B : List Ln) : Nat → List Ln
  | 0 => zL 25
  | k + 1 => (theO B k).set k (chi B (k % 5) (k / 5))

theorem theC_len (L : List Ln) : ∀ k, (theC L k).length = 5
  | 0 => by simp [theC, zL_len]
  | k + 1 => by simp [theC, theC_len L k]
theorem theB_len (L C : List Ln) : ∀ k, (theB L C k).length = 25
  | 0 => by simp [theB, zL_len]
  | k + 1 => by simp [theB, theB_len L C k]
theorem theO_len (B : List Ln) : ∀ k, (theO B k).length = 25
  | 0 => by simp [theO, zL_len]
  | k + 1 => by simp [theO, theO_len B k]

/-- A round, but for its constant. -/
def base (L : List Ln) : List Ln := theO (theB L (theC L 25) 25) 25
def rnd (L : List Ln) (c : Ln) : List Ln := (base L).set 0 (nl (base L) 0 ^^^ c)
theorem base_len (L : List Ln) : (base L).length = 25 := theO_len _ _
theorem rnd_len (L : List Ln) (c : Ln) : (rnd L c).length = 25 := by simp [rnd, base_len]

theorem z25 : ([.i .u64 0, .i .u64 0, .i .u64 0, .i .u64 0, .i .u64 0, .i .u64 0, .i .u64 0, .i .u64 0, .i .u64 0, .i .u64 0, .i .u64 0, .i .u64 0, .i .u64 0, .i .u64 0, .i .u64 0, .i .u64 0, .i .u64 0, .i .u64 0, .i .u64 0, .i .u64 0, .i .u64 0, .i .u64 0, .i .u64 0, .i .u64 0, .i .u64 0] : List AV) = lanes (zL 25) := rfl
theorem z5 : ([.i .u64 0, .i .u64 0, .i .u64 0, .i .u64 0, .i .u64 0] : List AV) = lanes (zL 5) := rfl

/-! ### A round's constant -/

abbrev By := BitVec 8
def ib (x : By) : Int := (x.toNat : Int)
theorem ib_inj {x y : By} : ib x = ib y ↔ x = y := by simp only [ib, Int.natCast_inj, BitVec.toNat_inj]
theorem ib_ok (x : By) : 0 ≤ ib x ∧ ib x < 256 := by have := x.isLt; unfold ib; omega

theorem all_by {p : By → Prop} [∀ x, Decidable (p x)] (h : (List.range 256).all (fun n => decide (p (BitVec.ofNat 8 n))) = true) (x : By) : p x := by
  have h1 := List.all_eq_true.1 h x.toNat (List.mem_range.2 x.isLt)
  have h2 := of_decide_eq_true h1
  rwa [show BitVec.ofNat 8 x.toNat = x by simp] at h2

def low (x : By) : Bool := x.getLsbD 0
def top (x : By) : Bool := x.getLsbD 7
def nextB (x : By) : By := if top x then (x <<< 1) ^^^ 113#8 else x <<< 1
def row : Nat → By
  | 0 => 1
  | t + 1 => nextB (row t)
def outC (i : Nat) : Nat → Ln
  | 0 => 0
  | t + 1 => if 7 * i ≤ t ∧ low (row t) = true then outC i t ||| ((1#64) <<< (2 ^ (t - 7 * i) - 1)) else outC i t
/-- What a round's constant is; outside of the rounds, 0. -/
def con (i : Int) : Ln := if i < 0 ∨ 24 ≤ i then 0 else outC i.toNat (7 * (i.toNat + 1))

def bI (t : Bool) : Int := if t then 1 else 0
theorem u8_and1 : ∀ x : By, bitV .and .u8 (ib x) 1 = some (.i .u8 (bI (low x))) :=
  fun x => congrArg (fun z => some (AV.i .u8 z)) (all_by (p := fun x => (IntKind.u8.wrap (BitVec.ofInt IntKind.u8.bits (ib x) &&& BitVec.ofInt IntKind.u8.bits 1).toNat) = bI (low x)) (by decide +kernel) x)
theorem u8_xor : ∀ x : By, bitV .xor .u8 (ib x) 113 = some (.i .u8 (ib (x ^^^ 113#8))) :=
  fun x => congrArg (fun z => some (AV.i .u8 z)) (all_by (p := fun x => (IntKind.u8.wrap (BitVec.ofInt IntKind.u8.bits (ib x) ^^^ BitVec.ofInt IntKind.u8.bits 113).toNat) = ib (x ^^^ 113#8)) (by decide +kernel) x)
theorem u8_shl : ∀ x : By, shiftV .shl .u8 (ib x) 1 = some (.i .u8 (ib (x <<< 1))) :=
  fun x => congrArg (fun z => some (AV.i .u8 z)) (all_by (p := fun x => IntKind.u8.wrap (ib x * 2 ^ (min (1 : Int).toNat IntKind.u8.bits)) = ib (x <<< 1)) (by decide +kernel) x)
theorem u8_top : ∀ x : By, (128 ≤ ib x ↔ top x = true) := all_by (by decide +kernel)
theorem i64_and : ∀ x : By, bitV .and .i64 (2 * ib x) 255 = some (.i .i64 (ib (x <<< 1))) :=
  fun x => congrArg (fun z => some (AV.i .i64 z)) (all_by (p := fun x => (IntKind.i64.wrap (BitVec.ofInt IntKind.i64.bits (2 * ib x) &&& BitVec.ofInt IntKind.i64.bits 255).toNat) = ib (x <<< 1)) (by decide +kernel) x)
theorem i64_xor : ∀ x : By, bitV .xor .i64 (ib x) 113 = some (.i .i64 (ib (x ^^^ 113#8))) :=
  fun x => congrArg (fun z => some (AV.i .i64 z)) (all_by (p := fun x => (IntKind.i64.wrap (BitVec.ofInt IntKind.i64.bits (ib x) ^^^ BitVec.ofInt IntKind.i64.bits 113).toNat) = ib (x ^^^ 113#8)) (by decide +kernel) x)
theorem by_low : ∀ x : By, ib x % 2 = bI (low x) := all_by (by decide +kernel)
theorem by_shl : ∀ x : By, top x = false → 2 * ib x = ib (x <<< 1) := all_by (by decide +kernel)
theorem shl1 {j : Nat} (h : j ≤ 6) : shiftV .shl .u64 1 (j : Int) = some (.i .u64 ((2 ^ j : Nat) : Int)) ∧ IntKind.u64.wrap (((2 ^ j : Nat) : Int) - 1) = ((2 ^ j - 1 : Nat) : Int) ∧ 2 ^ j - 1 ≤ 64 := by
  have hj : j = 0 ∨ j = 1 ∨ j = 2 ∨ j = 3 ∨ j = 4 ∨ j = 5 ∨ j = 6 := by omega
  rcases hj with rfl | rfl | rfl | rfl | rfl | rfl | rfl <;> exact ⟨rfl, rfl, by decide⟩
theorem shl1' {n : Nat} (h : n ≤ 64) : shiftV .shl .u64 1 (n : Int) = some (.i .u64 (iv ((1#64) <<< n))) := shl_u64 1#64 h

theorem tmod5 (k : Nat) : (k : Int).tmod 5 = ((k % 5 : Nat) : Int) := rfl
theorem tdiv5 (k : Nat) : (k : Int).tdiv 5 = ((k / 5 : Nat) : Int) := rfl


/-! ### The other order -/

def refC (L : List Ln) : Nat → List Ln
  | 0 => zL 5
  | m + 1 => (refC L m).set (m / 5) (nl (refC L m) (m / 5) ^^^ nl L (m / 5 + 5 * (m % 5)))
def refB (L C : List Ln) : Nat → List Ln
  | 0 => zL 25
  | m + 1 => (refB L C m).set (place (m / 5) (m % 5)) (rot (nl L (m / 5 + 5 * (m % 5)) ^^^ theD C (m / 5)) (tn (m / 5) (m % 5)))
def refO (B : List Ln) : Nat → List Ln
  | 0 => zL 25
  | m + 1 => (refO B m).set (m / 5 + 5 * (m % 5)) (chi B (m / 5) (m % 5))
theorem refC_len (L : List Ln) : ∀ k, (refC L k).length = 5
  | 0 => by simp [refC, zL_len]
  | k + 1 => by simp [refC, refC_len L k]
theorem refB_len (L C : List Ln) : ∀ k, (refB L C k).length = 25
  | 0 => by simp [refB, zL_len]
  | k + 1 => by simp [refB, refB_len L C k]
theorem refO_len (B : List Ln) : ∀ k, (refO B k).length = 25
  | 0 => by simp [refO, zL_len]
  | k + 1 => by simp [refO, refO_len B k]
theorem refC_eq (L : List Ln) : refC L 25 = theC L 25 := by kernel_rfl
theorem refB_eq (L C : List Ln) : refB L C 25 = theB L C 25 := by kernel_rfl
theorem refO_eq (B : List Ln) : refO B 25 = theO B 25 := by kernel_rfl

/-- So many rounds. -/
def rnds (L : List Ln) : Nat → List Ln
  | 0 => L
  | k + 1 => rnd (rnds L k) (con k)
theorem rnds_len {L : List Ln} (h : L.length = 25) : ∀ k, (rnds L k).length = 25
  | 0 => h
  | k + 1 => rnd_len _ _
end Zab

namespace Zab
set_option linter.unusedVariables false
set_option linter.unusedSimpArgs false

theorem cases25 {p : Nat → Prop} (h : ∀ k, (k = 0 ∨ k = 1 ∨ k = 2 ∨ k = 3 ∨ k = 4 ∨ k = 5 ∨ k = 6 ∨ k = 7 ∨ k = 8 ∨ k = 9 ∨ k = 10 ∨ k = 11 ∨ k = 12 ∨ k = 13 ∨ k = 14 ∨ k = 15 ∨ k = 16 ∨ k = 17 ∨ k = 18 ∨ k = 19 ∨ k = 20 ∨ k = 21 ∨ k = 22 ∨ k = 23 ∨ k = 24) → p k) (k : Nat) (hk : k < 25) : p k := h k (by omega)

theorem theB_at (L C : List Ln) (k : Nat) (hk : k < 25) : nl (theB L C 25) (place (k % 5) (k / 5)) = rot (nl L k ^^^ theD C (k % 5)) (tn (k % 5) (k / 5)) := by
  refine cases25 (p := fun k => nl (theB L C 25) (place (k % 5) (k / 5)) = rot (nl L k ^^^ theD C (k % 5)) (tn (k % 5) (k / 5))) (fun k h => ?_) k hk
  rcases h with rfl | rfl | rfl | rfl | rfl | rfl | rfl | rfl | rfl | rfl | rfl | rfl | rfl | rfl | rfl | rfl | rfl | rfl | rfl | rfl | rfl | rfl | rfl | rfl | rfl
  all_goals kernel_rfl
theorem theO_at (B : List Ln) (k : Nat) (hk : k < 25) : nl (theO B 25) k = chi B (k % 5) (k / 5) := by
  refine cases25 (p := fun k => nl (theO B 25) k = chi B (k % 5) (k / 5)) (fun k h => ?_) k hk
  rcases h with rfl | rfl | rfl | rfl | rfl | rfl | rfl | rfl | rfl | rfl | rfl | rfl | rfl | rfl | rfl | rfl | rfl | rfl | rfl | rfl | rfl | rfl | rfl | rfl | rfl
  all_goals kernel_rfl
theorem theC_at (L : List Ln) (x : Nat) (hx : x < 5) : nl (theC L 25) x = 0 ^^^ nl L x ^^^ nl L (x + 5) ^^^ nl L (x + 10) ^^^ nl L (x + 15) ^^^ nl L (x + 20) := by
  have h0 : nl (theC L 25) 0 = 0 ^^^ nl L 0 ^^^ nl L 5 ^^^ nl L 10 ^^^ nl L 15 ^^^ nl L 20 := by kernel_rfl
  have h1 : nl (theC L 25) 1 = 0 ^^^ nl L 1 ^^^ nl L 6 ^^^ nl L 11 ^^^ nl L 16 ^^^ nl L 21 := by kernel_rfl
  have h2 : nl (theC L 25) 2 = 0 ^^^ nl L 2 ^^^ nl L 7 ^^^ nl L 12 ^^^ nl L 17 ^^^ nl L 22 := by kernel_rfl
  have h3 : nl (theC L 25) 3 = 0 ^^^ nl L 3 ^^^ nl L 8 ^^^ nl L 13 ^^^ nl L 18 ^^^ nl L 23 := by kernel_rfl
  have h4 : nl (theC L 25) 4 = 0 ^^^ nl L 4 ^^^ nl L 9 ^^^ nl L 14 ^^^ nl L 19 ^^^ nl L 24 := by kernel_rfl
  have h : x = 0 ∨ x = 1 ∨ x = 2 ∨ x = 3 ∨ x = 4 := by omega
  rcases h with h | h | h | h | h <;> subst h
  · exact h0
  · exact h1
  · exact h2
  · exact h3
  · exact h4

theorem tn_lt (x y : Nat) (hx : x < 5) (hy : y < 5) : tn x y < 64 := by
  have h : ∀ a : Fin 5, ∀ b : Fin 5, tn a.val b.val < 64 := by decide +kernel
  exact h ⟨x, hx⟩ ⟨y, hy⟩

theorem chi5 : ∀ a0 a1 a2 a3 a4 b0 b1 b2 b3 b4 : Bool, (a0 ^^ (!a1 && a2)) = (b0 ^^ (!b1 && b2)) → (a1 ^^ (!a2 && a3)) = (b1 ^^ (!b2 && b3)) → (a2 ^^ (!a3 && a4)) = (b2 ^^ (!b3 && b4)) →
    (a3 ^^ (!a4 && a0)) = (b3 ^^ (!b4 && b0)) → (a4 ^^ (!a0 && a1)) = (b4 ^^ (!b0 && b1)) → a0 = b0 ∧ a1 = b1 ∧ a2 = b2 ∧ a3 = b3 ∧ a4 = b4 := by decide

theorem chi_bit (B : List Ln) (x y i : Nat) (hi : i < 64) : (chi B x y).getLsbD i = ((nl B (x + 5 * y)).getLsbD i ^^ (!(nl B ((x + 1) % 5 + 5 * y)).getLsbD i && (nl B ((x + 2) % 5 + 5 * y)).getLsbD i)) := by
  unfold chi
  rw [BitVec.getLsbD_xor, BitVec.getLsbD_and, BitVec.getLsbD_not]
  simp [hi]

theorem chi_inj {B D : List Ln} {y : Nat} (h : ∀ x, x < 5 → chi B x y = chi D x y) : ∀ x, x < 5 → nl B (x + 5 * y) = nl D (x + 5 * y) := by
  have key : ∀ i, i < 64 → ∀ x, x < 5 → (nl B (x + 5 * y)).getLsbD i = (nl D (x + 5 * y)).getLsbD i := by
    intro i hi
    have e : ∀ x, x < 5 → ((nl B (x + 5 * y)).getLsbD i ^^ (!(nl B ((x + 1) % 5 + 5 * y)).getLsbD i && (nl B ((x + 2) % 5 + 5 * y)).getLsbD i)) = ((nl D (x + 5 * y)).getLsbD i ^^ (!(nl D ((x + 1) % 5 + 5 * y)).getLsbD i && (nl D ((x + 2) % 5 + 5 * y)).getLsbD i)) := by
      intro x hx
      rw [← chi_bit B x y i hi, ← chi_bit D x y i hi, h x hx]
    obtain ⟨g0, g1, g2, g3, g4⟩ := chi5 _ _ _ _ _ _ _ _ _ _ (e 0 (by omega)) (e 1 (by omega)) (e 2 (by omega)) (e 3 (by omega)) (e 4 (by omega))
    intro x hx
    have hx5 : x = 0 ∨ x = 1 ∨ x = 2 ∨ x = 3 ∨ x = 4 := by omega
    rcases hx5 with rfl | rfl | rfl | rfl | rfl
    · exact g0
    · exact g1
    · exact g2
    · exact g3
    · exact g4
  intro x hx
  exact BitVec.eq_of_getLsbD_eq fun i hi => key i hi x hx

theorem rot_rot (x : Ln) {k : Nat} (h : k + k < 64) : rot (rot x k) k = rot x (k + k) := by
  apply BitVec.eq_of_getLsbD_eq
  intro i hi
  rw [rot_bit _ (by omega) hi, rot_bit _ (by omega) (by omega), rot_bit _ h hi]
  congr 1
  omega
theorem rot_32 (x : Ln) : rot (rot x 32) 32 = x := by
  apply BitVec.eq_of_getLsbD_eq
  intro i hi
  rw [rot_bit _ (by omega) hi, rot_bit _ (by omega) (by omega)]
  congr 1
  omega
theorem rot_x {x y : Ln} {n : Nat} (h : n < 64) : rot (x ^^^ y) n = rot x n ^^^ rot y n := by
  rcases rot_xor x y n with e | e
  · exact e
  · omega

theorem twice {P : Nat → Ln} (h5 : ∀ x, P (x + 5) = P x) {k : Nat} (hk : k < 64) (h : ∀ x, P x = P (x + 4 * k) ^^^ rot (P (x + k)) k) (x : Nat) : P x = P (x + 8 * k) ^^^ rot (rot (P (x + 2 * k)) k) k := by
  have per : ∀ m x, P (x + 5 * m) = P x := by
    intro m
    induction m with
    | zero => intro x; rfl
    | succ m ih => intro x; rw [show x + 5 * (m + 1) = (x + 5 * m) + 5 by omega, h5, ih]
  have e1 : P (x + 4 * k) = P (x + 8 * k) ^^^ rot (P x) k := by
    have := h (x + 4 * k)
    rw [show x + 4 * k + 4 * k = x + 8 * k by omega, show x + 4 * k + k = x + 5 * k by omega, per] at this
    exact this
  have e2 : P (x + k) = P x ^^^ rot (P (x + 2 * k)) k := by
    have := h (x + k)
    rw [show x + k + 4 * k = x + 5 * k by omega, show x + k + k = x + 2 * k by omega, per] at this
    exact this
  have e3 := h x
  rw [e1, e2, rot_x hk] at e3
  rw [e3]
  generalize P (x + 8 * k) = a
  generalize rot (P x) k = b
  generalize rot (rot (P (x + 2 * k)) k) k = c
  apply BitVec.eq_of_getLsbD_eq
  intro i hi
  simp only [BitVec.getLsbD_xor]
  cases a.getLsbD i <;> cases b.getLsbD i <;> cases c.getLsbD i <;> rfl

theorem fib5 : ∀ p0 p1 p2 p3 p4 : Bool, p0 = (p1 ^^ p4) → p1 = (p2 ^^ p0) → p2 = (p3 ^^ p1) → p3 = (p4 ^^ p2) → p4 = (p0 ^^ p3) → p0 = false ∧ p1 = false ∧ p2 = false ∧ p3 = false ∧ p4 = false := by decide

theorem all_zero {P : Nat → Ln} (h5 : ∀ x, P (x + 5) = P x) (h : ∀ x, P x = P (x + 4) ^^^ rot (P (x + 1)) 1) : ∀ x, x < 5 → P x = 0 := by
  have s1 : ∀ x, P x = P (x + 4 * 1) ^^^ rot (P (x + 1)) 1 := h
  have s2 : ∀ x, P x = P (x + 4 * 2) ^^^ rot (P (x + 2)) 2 := fun x => by have := twice h5 (by omega) s1 x; rwa [rot_rot _ (by omega)] at this
  have s4 : ∀ x, P x = P (x + 4 * 4) ^^^ rot (P (x + 4)) 4 := fun x => by have := twice h5 (by omega) s2 x; rwa [rot_rot _ (by omega)] at this
  have s8 : ∀ x, P x = P (x + 4 * 8) ^^^ rot (P (x + 8)) 8 := fun x => by have := twice h5 (by omega) s4 x; rwa [rot_rot _ (by omega)] at this
  have s16 : ∀ x, P x = P (x + 4 * 16) ^^^ rot (P (x + 16)) 16 := fun x => by have := twice h5 (by omega) s8 x; rwa [rot_rot _ (by omega)] at this
  have s32 : ∀ x, P x = P (x + 4 * 32) ^^^ rot (P (x + 32)) 32 := fun x => by have := twice h5 (by omega) s16 x; rwa [rot_rot _ (by omega)] at this
  have s64 : ∀ x, P x = P (x + 256) ^^^ P (x + 64) := fun x => by have := twice h5 (by omega) s32 x; rwa [rot_32] at this
  have per : ∀ m x, P (x + 5 * m) = P x := by
    intro m
    induction m with
    | zero => intro x; rfl
    | succ m ih => intro x; rw [show x + 5 * (m + 1) = (x + 5 * m) + 5 by omega, h5, ih]
  have f : ∀ x, P x = P (x + 1) ^^^ P (x + 4) := fun x => by
    have := s64 x
    rw [show x + 256 = (x + 1) + 5 * 51 by omega, per, show x + 64 = (x + 4) + 5 * 12 by omega, per] at this
    exact this
  have f0 := f 0
  have f1 := f 1
  have f2 := f 2
  have f3 := f 3
  have f4 := f 4
  rw [show 1 + 4 = 0 + 5 from rfl, h5] at f1
  rw [show 2 + 4 = 1 + 5 from rfl, h5] at f2
  rw [show 3 + 4 = 2 + 5 from rfl, h5] at f3
  rw [show 4 + 1 = 0 + 5 from rfl, h5, show 4 + 4 = 3 + 5 from rfl, h5] at f4
  intro x hx
  apply BitVec.eq_of_getLsbD_eq
  intro i hi
  have bit : ∀ {a b c : Ln}, a = b ^^^ c → a.getLsbD i = (b.getLsbD i ^^ c.getLsbD i) := fun h => by rw [h, BitVec.getLsbD_xor]
  obtain ⟨g0, g1, g2, g3, g4⟩ := fib5 _ _ _ _ _ (bit f0) (bit f1) (bit f2) (bit f3) (bit f4)
  have hx5 : x = 0 ∨ x = 1 ∨ x = 2 ∨ x = 3 ∨ x = 4 := by omega
  have z : (0 : Ln).getLsbD i = false := by simp
  rw [z]
  rcases hx5 with h | h | h | h | h <;> subst h
  · exact g0
  · exact g1
  · exact g2
  · exact g3
  · exact g4

theorem xor_move {a b c d : Ln} (h : a ^^^ b = c ^^^ d) : a ^^^ c = b ^^^ d := by
  apply BitVec.eq_of_getLsbD_eq
  intro i hi
  have := congrArg (fun z => z.getLsbD i) h
  simp only [BitVec.getLsbD_xor] at this ⊢
  revert this
  cases a.getLsbD i <;> cases b.getLsbD i <;> cases c.getLsbD i <;> cases d.getLsbD i <;> simp

theorem base_inj {L M : List Ln} (hL : L.length = 25) (hM : M.length = 25) (h : base L = base M) : L = M := by
  unfold base at h
  -- the rows
  have h1 : ∀ j, j < 25 → nl (theB L (theC L 25) 25) j = nl (theB M (theC M 25) 25) j := by
    intro j hj
    have := chi_inj (B := theB L (theC L 25) 25) (D := theB M (theC M 25) 25) (y := j / 5) (fun x hx => by
      have e1 := theO_at (theB L (theC L 25) 25) (x + 5 * (j / 5)) (by omega)
      have e2 := theO_at (theB M (theC M 25) 25) (x + 5 * (j / 5)) (by omega)
      rw [show (x + 5 * (j / 5)) % 5 = x by omega, show (x + 5 * (j / 5)) / 5 = j / 5 by omega] at e1 e2
      rw [← e1, ← e2, h]) (j % 5) (by omega)
    rwa [show j % 5 + 5 * (j / 5) = j by omega] at this
  -- the lanes, turned
  have h2 : ∀ k, k < 25 → nl L k ^^^ nl M k = theD (theC L 25) (k % 5) ^^^ theD (theC M 25) (k % 5) := by
    intro k hk
    have e := h1 (place (k % 5) (k / 5)) (by unfold place; omega)
    rw [theB_at _ _ k hk, theB_at _ _ k hk] at e
    exact xor_move (rot_inj (tn_lt _ _ (by omega) (by omega)) e)
  -- the columns
  have hP : ∀ x, x < 5 → nl (theC L 25) x ^^^ nl (theC M 25) x = theD (theC L 25) x ^^^ theD (theC M 25) x := by
    intro x hx
    rw [theC_at L x hx, theC_at M x hx]
    have a0 := h2 x (by omega)
    have a1 := h2 (x + 5) (by omega)
    have a2 := h2 (x + 10) (by omega)
    have a3 := h2 (x + 15) (by omega)
    have a4 := h2 (x + 20) (by omega)
    rw [show x % 5 = x by omega] at a0
    rw [show (x + 5) % 5 = x by omega] at a1
    rw [show (x + 10) % 5 = x by omega] at a2
    rw [show (x + 15) % 5 = x by omega] at a3
    rw [show (x + 20) % 5 = x by omega] at a4
    generalize theD (theC L 25) x ^^^ theD (theC M 25) x = E at *
    apply BitVec.eq_of_getLsbD_eq
    intro i hi
    have bit : ∀ {a b c : Ln}, a ^^^ b = c → (a.getLsbD i ^^ b.getLsbD i) = c.getLsbD i := fun h => by rw [← h, BitVec.getLsbD_xor]
    have b0 := bit a0
    have b1 := bit a1
    have b2 := bit a2
    have b3 := bit a3
    have b4 := bit a4
    have key : ∀ p0 q0 p1 q1 p2 q2 p3 q3 p4 q4 e : Bool, (p0 ^^ q0) = e → (p1 ^^ q1) = e → (p2 ^^ q2) = e → (p3 ^^ q3) = e → (p4 ^^ q4) = e → ((((((false ^^ p0) ^^ p1) ^^ p2) ^^ p3) ^^ p4) ^^ (((((false ^^ q0) ^^ q1) ^^ q2) ^^ q3) ^^ q4)) = e := by decide
    have := key _ _ _ _ _ _ _ _ _ _ _ b0 b1 b2 b3 b4
    simp only [BitVec.getLsbD_xor]
    rw [show (0 : Ln).getLsbD i = false by simp]
    exact this
  have hz := all_zero (P := fun x => nl (theC L 25) (x % 5) ^^^ nl (theC M 25) (x % 5)) (fun x => by simp) (fun x => by
    show nl (theC L 25) (x % 5) ^^^ nl (theC M 25) (x % 5) = _
    rw [hP (x % 5) (by omega), rot_x (by omega)]
    unfold theD
    rw [show (x % 5 + 4) % 5 = (x + 4) % 5 by omega, show (x % 5 + 1) % 5 = (x + 1) % 5 by omega]
    generalize nl (theC L 25) ((x + 4) % 5) = a
    generalize nl (theC M 25) ((x + 4) % 5) = b
    generalize rot (nl (theC L 25) ((x + 1) % 5)) 1 = c
    generalize rot (nl (theC M 25) ((x + 1) % 5)) 1 = d
    apply BitVec.eq_of_getLsbD_eq
    intro i hi
    simp only [BitVec.getLsbD_xor]
    cases a.getLsbD i <;> cases b.getLsbD i <;> cases c.getLsbD i <;> cases d.getLsbD i <;> rfl)
  apply List.ext_getElem (by omega)
  intro j p q
  have hj := h2 j (by omega)
  rw [← hP (j % 5) (by omega)] at hj
  have := hz (j % 5) (by omega)
  simp only [Nat.mod_mod] at this
  rw [this] at hj
  rw [← nl_get p, ← nl_get q]
  have : nl L j ^^^ nl M j ^^^ nl M j = 0 ^^^ nl M j := by rw [hj]
  rw [BitVec.xor_assoc, BitVec.xor_self] at this
  simpa using this

theorem rnd_inj {L M : List Ln} (hL : L.length = 25) (hM : M.length = 25) {c : Ln} (h : rnd L c = rnd M c) : L = M := by
  refine base_inj hL hM ?_
  unfold rnd at h
  have l1 := base_len L
  have l2 := base_len M
  apply List.ext_getElem (by omega)
  intro j p q
  have e : ((base L).set 0 (nl (base L) 0 ^^^ c))[j]'(by simpa using p) = ((base M).set 0 (nl (base M) 0 ^^^ c))[j]'(by simpa using q) := by simp only [h]
  by_cases hj : j = 0
  · subst hj
    simp only [List.getElem_set_self] at e
    rw [← nl_get p, ← nl_get q]
    have e2 : nl (base L) 0 ^^^ c ^^^ c = nl (base M) 0 ^^^ c ^^^ c := by rw [e]
    simpa [BitVec.xor_assoc] using e2
  · simpa [List.getElem_set, show ¬ 0 = j from fun h => hj h.symm] using e

end Zab

namespace Zab
open Go
set_option linter.unusedVariables false

/-- The permutation. -/
def perm (L : List Ln) : List Ln := rnds L 24
theorem perm_len {L : List Ln} (h : L.length = 25) : (perm L).length = 25 := rnds_len h 24
theorem perm_def (L : List Ln) : rnds L 24 = perm L := rfl
attribute [irreducible] perm
/-- A byte goes into the state. -/
def mixA (A : List Ln) (p : Nat) (x : Int) : List Ln := A.set (p / 8) (nl A (p / 8) ^^^ (BitVec.ofInt 64 x <<< (8 * (p % 8))))
theorem mixA_len (A : List Ln) (p : Nat) (x : Int) : (mixA A p x).length = A.length := by simp [mixA]
def tk1 (R : Nat) (S : List Ln × Nat) (x : Int) : List Ln × Nat := if S.2 + 1 = R then (perm (mixA S.1 S.2 x), 0) else (mixA S.1 S.2 x, S.2 + 1)
/-- Bytes are taken. -/
def takeL (R : Nat) (S : List Ln × Nat) (L : List Int) : List Ln × Nat := L.foldl (tk1 R) S
theorem takeL_app (R : Nat) (S : List Ln × Nat) (L M : List Int) : takeL R S (L ++ M) = takeL R (takeL R S L) M := List.foldl_append
theorem takeL_nil (R : Nat) (S : List Ln × Nat) : takeL R S [] = S := rfl
theorem takeL_one (R : Nat) (S : List Ln × Nat) (x : Int) : takeL R S [x] = tk1 R S x := rfl
/-- The end of what is taken. -/
def padS (R : Nat) (X : Int) (S : List Ln × Nat) : List Ln × Nat := (perm (mixA (mixA S.1 S.2 X) (R - 1) 128), 0)
def outS (R : Nat) (S : List Ln × Nat) : List Ln × Nat := if S.2 = R then (perm S.1, 0) else S
def outB (S : List Ln × Nat) : Int := IntKind.u8.wrap (iv (nl S.1 (S.2 / 8) >>> (8 * (S.2 % 8))))
/-- The state behind n bytes. -/
def nextN (R : Nat) (S : List Ln × Nat) : Nat → List Ln × Nat
  | 0 => S
  | n + 1 => ((outS R (nextN R S n)).1, (outS R (nextN R S n)).2 + 1)
/-- n bytes. -/
def outL (R : Nat) (S : List Ln × Nat) (n : Nat) : List Int := (List.range n).map fun i => outB (outS R (nextN R S i))
theorem outL_len (R : Nat) (S : List Ln × Nat) (n : Nat) : (outL R S n).length = n := by simp [outL]
theorem outL_succ (R : Nat) (S : List Ln × Nat) (n : Nat) : outL R S (n + 1) = outL R S n ++ [outB (outS R (nextN R S n))] := by simp [outL, List.range_succ]
theorem nextN_add (R : Nat) (S : List Ln × Nat) (n : Nat) : ∀ m, nextN R S (n + m) = nextN R (nextN R S n) m
  | 0 => rfl
  | m + 1 => by rw [← Nat.add_assoc, nextN, nextN, nextN_add R S n m]
theorem outL_add (R : Nat) (S : List Ln × Nat) (n : Nat) : ∀ m, outL R S (n + m) = outL R S n ++ outL R (nextN R S n) m
  | 0 => by simp [outL]
  | m + 1 => by rw [← Nat.add_assoc, outL_succ, outL_add R S n m, outL_succ, nextN_add, List.append_assoc]

/-- A state that may be. -/
structure SpOk (R : Nat) (S : List Ln × Nat) : Prop where
  len : S.1.length = 25
  low : S.2 ≤ R
theorem take1_ok {R : Nat} {S : List Ln × Nat} (h : S.1.length = 25) (hp : S.2 < R) (x : Int) : (tk1 R S x).1.length = 25 ∧ (tk1 R S x).2 < R := by
  unfold tk1
  split
  · exact ⟨perm_len (by rw [mixA_len]; exact h), by show 0 < R; omega⟩
  · exact ⟨by rw [mixA_len]; exact h, by show S.2 + 1 < R; omega⟩
theorem takeL_ok {R : Nat} : ∀ (L : List Int) {S : List Ln × Nat}, S.1.length = 25 → S.2 < R → (takeL R S L).1.length = 25 ∧ (takeL R S L).2 < R
  | [], _, h, hp => ⟨h, hp⟩
  | x :: L, S, h, hp => takeL_ok L (S := tk1 R S x) (take1_ok h hp x).1 (take1_ok h hp x).2
theorem padS_ok {R : Nat} {S : List Ln × Nat} (h : S.1.length = 25) (X : Int) : (padS R X S).1.length = 25 := perm_len (by rw [mixA_len, mixA_len]; exact h)
theorem outS_ok {R : Nat} {S : List Ln × Nat} (hR : 0 < R) (h : S.1.length = 25) (hp : S.2 ≤ R) : (outS R S).1.length = 25 ∧ (outS R S).2 < R := by
  unfold outS
  split
  · exact ⟨perm_len h, by show 0 < R; omega⟩
  · exact ⟨h, by omega⟩
theorem nextN_ok {R : Nat} {S : List Ln × Nat} (hR : 0 < R) (h : S.1.length = 25) (hp : S.2 ≤ R) : ∀ n, (nextN R S n).1.length = 25 ∧ (nextN R S n).2 ≤ R
  | 0 => ⟨h, hp⟩
  | n + 1 => by
    obtain ⟨a, b⟩ := nextN_ok hR h hp n
    obtain ⟨c, d⟩ := outS_ok hR a b
    exact ⟨c, by show _ + 1 ≤ R; omega⟩
theorem outB_in (S : List Ln × Nat) : 0 ≤ outB S ∧ outB S < 256 := by
  have : outB S = iv (nl S.1 (S.2 / 8) >>> (8 * (S.2 % 8))) % 256 := rfl
  rw [this]; omega

/-! ### A sponge's cells -/

def spC (A : List Ln) (r x p : Int) (s : Bool) : List AV := lanes A ++ [.i .i64 r, .i .u8 x, .i .i64 p, .b s]
section
variable {A B : List Ln} {r x p : Int} {s : Bool}
theorem lanes_25 (h : A.length = 25) : (lanes A).length = 25 := by rw [lanes_length, h]
theorem spC_len (h : A.length = 25) : (spC A r x p s).length = 29 := by simp [spC, lanes_25 h]
theorem spC_25 (h : A.length = 25) : (spC A r x p s)[25]? = some (.i .i64 r) := by unfold spC; rw [List.getElem?_append_right (by rw [lanes_25 h]; omega), lanes_25 h]; rfl
theorem spC_26 (h : A.length = 25) : (spC A r x p s)[26]? = some (.i .u8 x) := by unfold spC; rw [List.getElem?_append_right (by rw [lanes_25 h]; omega), lanes_25 h]; rfl
theorem spC_27 (h : A.length = 25) : (spC A r x p s)[27]? = some (.i .i64 p) := by unfold spC; rw [List.getElem?_append_right (by rw [lanes_25 h]; omega), lanes_25 h]; rfl
theorem spC_28 (h : A.length = 25) : (spC A r x p s)[28]? = some (.b s) := by unfold spC; rw [List.getElem?_append_right (by rw [lanes_25 h]; omega), lanes_25 h]; rfl
theorem spC_lane (h : A.length = 25) {j : Nat} (hj : j < 25) : (spC A r x p s)[j]? = some (.i .u64 (iv (nl A j))) := by
  unfold spC; rw [List.getElem?_append_left (by rw [lanes_25 h]; exact hj)]; exact lanes_get (by omega)
theorem spC_set27 (h : A.length = 25) (q : Int) : (spC A r x p s).set 27 (.i .i64 q) = spC A r x q s := by
  unfold spC; rw [List.set_append_right _ _ (by rw [lanes_25 h]; omega), lanes_25 h]; rfl
theorem spC_set28 (h : A.length = 25) (t : Bool) : (spC A r x p s).set 28 (.b t) = spC A r x p t := by
  unfold spC; rw [List.set_append_right _ _ (by rw [lanes_25 h]; omega), lanes_25 h]; rfl
theorem spC_setl (h : A.length = 25) {j : Nat} (hj : j < 25) (v : Ln) : (spC A r x p s).set j (.i .u64 (iv v)) = spC (A.set j v) r x p s := by
  unfold spC; rw [List.set_append_left _ _ (by rw [lanes_25 h]; exact hj), lanes_set]
theorem spC_part (h : A.length = 25) : partV (spC A r x p s) 0 (some 25) = some (.ag (lanes A)) := by
  rw [partV_some (by rw [spC_len h]; omega) (.inr (by rw [spC_len h]; omega))]
  congr 2
  show ((lanes A ++ _).drop 0).take 25 = _
  rw [List.drop_zero, List.take_append_of_le_length (by rw [lanes_25 h]; omega), List.take_of_length_le (by rw [lanes_25 h]; omega)]
theorem spC_over (h : A.length = 25) (hB : B.length = 25) : setR (some (spC A r x p s)) 0 25 (some (lanes B)) = some (spC B r x p s) := by
  have h1 : over (spC A r x p s) 0 (lanes B) = spC B r x p s := by
    unfold over spC
    rw [lanes_25 hB, Nat.zero_add, List.drop_append, lanes_25 h, List.drop_of_length_le (by rw [lanes_25 h]; omega)]
    simp
  have h2 : Nat.ble (0 + 25) (spC A r x p s).length = true := by rw [spC_len h]; rfl
  unfold setR
  simp only [h2, cond_true]
  match hb : lanes B, lanes_25 hB with
  | a :: b :: l, _ => simp only; rw [← hb, h1]
theorem spC_hasSl (A : List Ln) : hasSlL (spC A r x p s) = false := by
  unfold spC lanes
  induction A with
  | nil => rfl
  | cons a A ih => simp only [List.map_cons, List.cons_append, hasSlL, hasSl1, Bool.false_or]; exact ih
theorem spC_new (r x : Int) : [.i .u64 0, .i .u64 0, .i .u64 0, .i .u64 0, .i .u64 0, .i .u64 0, .i .u64 0, .i .u64 0, .i .u64 0, .i .u64 0, .i .u64 0, .i .u64 0, .i .u64 0, .i .u64 0, .i .u64 0, .i .u64 0, .i .u64 0, .i .u64 0, .i .u64 0, .i .u64 0, .i .u64 0, .i .u64 0, .i .u64 0, .i .u64 0, .i .u64 0, .i .i64 r, .i .u8 x, .i .i64 0, .b false] = spC (zL 25) r x 0 false := rfl
end
/-- A byte among the state's. -/
theorem shl_byte (x : Int) (h0 : 0 ≤ x) (h1 : x < 256) {n : Nat} (hn : n < 64) : IntKind.u64.wrap x = x ∧ shiftV .shl .u64 x (n : Int) = some (.i .u64 (iv (BitVec.ofInt 64 x <<< n))) := by
  have e : iv (BitVec.ofInt 64 x) = x := by unfold iv; rw [BitVec.toNat_ofInt]; omega
  refine ⟨by rw [← e]; exact wrap_u64 _, ?_⟩
  have := shl_u64 (BitVec.ofInt 64 x) (n := n) (by omega)
  rwa [e] at this

theorem sees_nil (mv ds : List Nat) : seesAny mv ds [] = false := rfl
theorem sees_rf (mv ds : List Nat) (d o : Nat) (r : List AV) : seesAny mv ds (.rf d o :: r) = seesAny mv ds r := rfl
theorem sees_i (mv ds : List Nat) (k : IntKind) (n : Int) (r : List AV) : seesAny mv ds (.i k n :: r) = seesAny mv ds r := rfl
theorem sees_sl (mv ds : List Nat) (cs : List AV) (n : Nat) (r : List AV) : seesAny mv ds (.sl cs n :: r) = seesAny mv ds r := rfl
theorem sees_z (mv ds : List Nat) (r : List AV) : seesAny mv ds (.z :: r) = seesAny mv ds r := rfl
theorem sees_rs (mv ds : List Nat) (d o n sz : Nat) (r : List AV) : seesAny mv ds (.rs d o n sz :: r) = ((!memb mv d && memb ds d) || seesAny mv ds r) := rfl
theorem sees_fl {mv ds : List Nat} {x : AV} {r : List AV} (h : x.flat = true) : seesAny mv ds (x :: r) = seesAny mv ds r := by cases x <;> first | rfl | cases h
/-- A part of an own slice. -/
theorem slcV_rs {sz d off n l h : Nat} {x y : Int} (hx : x = (l : Int)) (hy : y = (h : Int)) (h1 : l ≤ h) (h2 : h ≤ n) (h3 : l < n) : slcV sz (.rs d off n sz) (some (.i .i64 x)) (some (.i .i64 y)) none = some (.rs d (off + l * sz) (h - l) sz) := by
  subst hx hy
  have e1 : idx (.i .i64 (l : Int)) = some l := by simp [idx]
  have e2 : idx (.i .i64 (h : Int)) = some h := by simp [idx]
  have b1 : Nat.ble l h = true := by simpa using h1
  have b2 : Nat.ble h n = true := by simpa using h2
  have b3 : Nat.blt l n = true := by simpa using h3
  simp only [slcV, e1, e2, b1, b2, b3, Nat.beq_refl, Bool.and_self, cond_true]
theorem slcV_rs0 {sz d off n h : Nat} {y : Int} (hy : y = (h : Int)) (h2 : h ≤ n) (h3 : 0 < n) : slcV sz (.rs d off n sz) none (some (.i .i64 y)) none = some (.rs d off h sz) := by
  subst hy
  have e2 : idx (.i .i64 (h : Int)) = some h := by simp [idx]
  have b1 : Nat.ble 0 h = true := by simp
  have b2 : Nat.ble h n = true := by simpa using h2
  have b3 : Nat.blt 0 n = true := by simpa using h3
  simp only [slcV, e2, b1, b2, b3, Nat.beq_refl, Bool.and_self, cond_true, Nat.zero_mul, Nat.add_zero, Nat.sub_zero]
end Zab

namespace Zab
open Go
set_option linter.unusedVariables false
/-! ### The document's sponge -/

def spD (A : List Ln) (r x p : Int) (s : Bool) : List AV := .i .i64 r :: .i .u8 x :: (lanes A ++ [AV.i .i64 p, AV.b s])
section
variable {A B : List Ln} {r x p : Int} {s : Bool}
theorem spD_len (h : A.length = 25) : (spD A r x p s).length = 29 := by simp [spD, lanes_25 h]
theorem spD_0 : (spD A r x p s)[0]? = some (.i .i64 r) := rfl
theorem spD_1 : (spD A r x p s)[1]? = some (.i .u8 x) := rfl
theorem spD_27 (h : A.length = 25) : (spD A r x p s)[27]? = some (.i .i64 p) := by
  show (lanes A ++ [AV.i .i64 p, AV.b s])[25]? = _
  rw [List.getElem?_append_right (by rw [lanes_25 h]; omega), lanes_25 h]; rfl
theorem spD_28 (h : A.length = 25) : (spD A r x p s)[28]? = some (.b s) := by
  show (lanes A ++ [AV.i .i64 p, AV.b s])[26]? = _
  rw [List.getElem?_append_right (by rw [lanes_25 h]; omega), lanes_25 h]; rfl
theorem spD_lane (h : A.length = 25) {j : Nat} (hj : j < 25) : (spD A r x p s)[2 + j]? = some (.i .u64 (iv (nl A j))) := by
  rw [show 2 + j = j + 2 by omega]
  show (lanes A ++ [AV.i .i64 p, AV.b s])[j]? = _
  rw [List.getElem?_append_left (by rw [lanes_25 h]; exact hj)]; exact lanes_get (by omega)
theorem spD_set27 (h : A.length = 25) (q : Int) : (spD A r x p s).set 27 (.i .i64 q) = spD A r x q s := by
  show AV.i .i64 r :: AV.i .u8 x :: ((lanes A ++ [AV.i .i64 p, AV.b s]).set 25 (.i .i64 q)) = _
  rw [List.set_append_right _ _ (by rw [lanes_25 h]; omega), lanes_25 h]; rfl
theorem spD_set28 (h : A.length = 25) (t : Bool) : (spD A r x p s).set 28 (.b t) = spD A r x p t := by
  show AV.i .i64 r :: AV.i .u8 x :: ((lanes A ++ [AV.i .i64 p, AV.b s]).set 26 (.b t)) = _
  rw [List.set_append_right _ _ (by rw [lanes_25 h]; omega), lanes_25 h]; rfl
theorem spD_setl (h : A.length = 25) {j : Nat} (hj : j < 25) (v : Ln) : (spD A r x p s).set (2 + j) (.i .u64 (iv v)) = spD (A.set j v) r x p s := by
  rw [show 2 + j = j + 2 by omega]
  show AV.i .i64 r :: AV.i .u8 x :: ((lanes A ++ [AV.i .i64 p, AV.b s]).set j (.i .u64 (iv v))) = _
  rw [List.set_append_left _ _ (by rw [lanes_25 h]; exact hj), lanes_set]; rfl
theorem spD_part (h : A.length = 25) : partV (spD A r x p s) 2 (some 25) = some (.ag (lanes A)) := by
  rw [partV_some (by rw [spD_len h]; omega) (.inl (by omega))]
  congr 2
  show ((lanes A ++ _)).take 25 = _
  rw [List.take_append_of_le_length (by rw [lanes_25 h]; omega), List.take_of_length_le (by rw [lanes_25 h]; omega)]
theorem spD_over (h : A.length = 25) (hB : B.length = 25) : setR (some (spD A r x p s)) 2 25 (some (lanes B)) = some (spD B r x p s) := by
  have h1 : over (spD A r x p s) 2 (lanes B) = spD B r x p s := by
    unfold over
    rw [lanes_25 hB]
    show AV.i .i64 r :: AV.i .u8 x :: (lanes B ++ ((lanes A ++ [AV.i .i64 p, AV.b s]).drop 25)) = _
    rw [List.drop_append, lanes_25 h, List.drop_of_length_le (by rw [lanes_25 h]; omega)]
    rfl
  have h2 : Nat.ble (2 + 25) (spD A r x p s).length = true := by rw [spD_len h]; rfl
  unfold setR
  simp only [h2, cond_true]
  match hb : lanes B, lanes_25 hB with
  | a :: b :: l, _ => simp only; rw [← hb, h1]
theorem spD_hasSl (A : List Ln) : hasSlL (spD A r x p s) = false := by
  unfold spD lanes
  simp only [hasSlL, hasSl1, Bool.false_or]
  induction A with
  | nil => rfl
  | cons a A ih => simp only [List.map_cons, List.cons_append, hasSlL, hasSl1, Bool.false_or]; exact ih
theorem spD_new (r x : Int) : [.i .i64 r, .i .u8 x, .i .u64 0, .i .u64 0, .i .u64 0, .i .u64 0, .i .u64 0, .i .u64 0, .i .u64 0, .i .u64 0, .i .u64 0, .i .u64 0, .i .u64 0, .i .u64 0, .i .u64 0, .i .u64 0, .i .u64 0, .i .u64 0, .i .u64 0, .i .u64 0, .i .u64 0, .i .u64 0, .i .u64 0, .i .u64 0, .i .u64 0, .i .u64 0, .i .u64 0, .i .i64 0, .b false] = spD (zL 25) r x 0 false := rfl
end
end Zab

namespace Zab
open Go
set_option linter.unusedVariables false

/-! ### Orbits -/

theorem hole : ∀ (N : Nat) (g : Nat → Nat), (∀ i, g i < N) → ∃ i j, i < j ∧ g i = g j
  | 0, g, h => absurd (h 0) (by omega)
  | N + 1, g, h => by
    by_cases hx : ∃ j, 0 < j ∧ g j = g 0
    · obtain ⟨j, h0, hj⟩ := hx
      exact ⟨0, j, h0, hj.symm⟩
    · have hn : ∀ j, g (j + 1) ≠ g 0 := fun j hj => hx ⟨j + 1, by omega, hj⟩
      obtain ⟨i, j, hij, he⟩ := hole N (fun i => if g (i + 1) < g 0 then g (i + 1) else g (i + 1) - 1) (fun i => by
        have h1 := h (i + 1); have h2 := h 0; have h3 := hn i
        show (if g (i + 1) < g 0 then g (i + 1) else g (i + 1) - 1) < N
        split <;> omega)
      refine ⟨i + 1, j + 1, by omega, ?_⟩
      have h1 := hn i; have h2 := hn j
      split at he <;> split at he <;> omega

/-- A state as a number. -/
def code : List Ln → Nat
  | [] => 0
  | x :: r => x.toNat + 2 ^ 64 * code r
theorem code_lt : ∀ (L : List Ln), code L < (2 ^ 64) ^ L.length
  | [] => by simp [code]
  | x :: r => by
    have h1 := x.isLt
    have h2 := code_lt r
    simp only [code, List.length_cons, Nat.pow_succ]
    have h3 : 2 ^ 64 * (code r + 1) ≤ 2 ^ 64 * (2 ^ 64) ^ r.length := Nat.mul_le_mul_left _ h2
    have h4 : (2 ^ 64) ^ r.length * 2 ^ 64 = 2 ^ 64 * (2 ^ 64) ^ r.length := Nat.mul_comm _ _
    rw [h4, Nat.mul_add, Nat.mul_one] at *
    omega
theorem code_inj : ∀ (L M : List Ln), L.length = M.length → code L = code M → L = M
  | [], [], _, _ => rfl
  | [], _ :: _, h, _ => by simp at h
  | _ :: _, [], h, _ => by simp at h
  | x :: r, y :: s, h, he => by
    simp only [code] at he
    have h1 := x.isLt; have h2 := y.isLt
    have e1 : x.toNat = y.toNat := by
      have : (x.toNat + 2 ^ 64 * code r) % 2 ^ 64 = (y.toNat + 2 ^ 64 * code s) % 2 ^ 64 := by rw [he]
      rw [Nat.add_mul_mod_self_left, Nat.add_mul_mod_self_left, Nat.mod_eq_of_lt h1, Nat.mod_eq_of_lt h2] at this
      exact this
    have e2 : code r = code s := by
      have : 2 ^ 64 * code r = 2 ^ 64 * code s := by omega
      exact Nat.eq_of_mul_eq_mul_left (by decide) this
    rw [BitVec.eq_of_toNat_eq e1, code_inj r s (by simpa using h) e2]

theorem rnds_inj {L M : List Ln} (hL : L.length = 25) (hM : M.length = 25) (k : Nat) : rnds L k = rnds M k → L = M := by
  induction k with
  | zero => exact id
  | succ k ih => exact fun h => ih (rnd_inj (rnds_len hL k) (rnds_len hM k) (c := con k) h)
theorem perm_inj {L M : List Ln} (hL : L.length = 25) (hM : M.length = 25) (h : perm L = perm M) : L = M := by
  rw [← perm_def, ← perm_def] at h
  exact rnds_inj hL hM 24 h

/-- So many permutations. -/
def perms (L : List Ln) : Nat → List Ln
  | 0 => L
  | n + 1 => perm (perms L n)
theorem perms_len {L : List Ln} (h : L.length = 25) : ∀ n, (perms L n).length = 25
  | 0 => h
  | n + 1 => perm_len (perms_len h n)
theorem perms_add (L : List Ln) (n : Nat) : ∀ m, perms L (n + m) = perms (perms L n) m
  | 0 => rfl
  | m + 1 => by rw [← Nat.add_assoc, perms, perms, perms_add L n m]
theorem perms_inj {L M : List Ln} (hL : L.length = 25) (hM : M.length = 25) : ∀ n, perms L n = perms M n → L = M
  | 0, h => h
  | n + 1, h => perms_inj hL hM n (perm_inj (perms_len hL n) (perms_len hM n) h)
/-- It goes round. -/
theorem perms_round {L : List Ln} (hL : L.length = 25) : ∃ p, 0 < p ∧ perms L p = L := by
  obtain ⟨i, j, hij, he⟩ := hole ((2 ^ 64) ^ 25) (fun n => code (perms L n)) (fun n => by
    have := code_lt (perms L n)
    rw [perms_len hL n] at this
    exact this)
  have h1 := code_inj _ _ (by rw [perms_len hL, perms_len hL]) he
  refine ⟨j - i, by omega, ?_⟩
  have e : j = (j - i) + i := by omega
  rw [e, perms_add] at h1
  have h2 : perms (perms L (j - i)) i = perms L i := h1.symm
  exact perms_inj (perms_len hL _) hL i h2
theorem perms_rounds {L : List Ln} {p : Nat} (h : perms L p = L) : ∀ t, perms L (p * t) = L
  | 0 => rfl
  | t + 1 => by rw [Nat.mul_succ, perms_add, perms_rounds h t, h]

/-! ### Bytes -/

/-- The i-th byte of a state. -/
def byteS (A : List Ln) (i : Nat) : Int := outB (A, i)
theorem byteS_eq (A : List Ln) (i : Nat) : byteS A i = (((nl A (i / 8) >>> (8 * (i % 8))).setWidth 8).toNat : Int) := by
  have : byteS A i = iv (nl A (i / 8) >>> (8 * (i % 8))) % 256 := rfl
  rw [this, BitVec.toNat_setWidth]
  unfold iv; omega
theorem byteS_mix {A : List Ln} {p i : Nat} {x : Int} (h : A.length = 25) (h0 : 0 ≤ x) (h1 : x < 256) (hpi : p ≠ i) : byteS (mixA A p x) i = byteS A i := by
  rw [byteS_eq, byteS_eq]
  by_cases hl : p / 8 = i / 8
  · by_cases hb : i / 8 < 25
    · have e : nl (mixA A p x) (i / 8) = nl A (i / 8) ^^^ (BitVec.ofInt 64 x <<< (8 * (p % 8))) := by
        unfold mixA
        rw [hl]
        simp only [nl, List.getD_eq_getElem?_getD, List.getElem?_set_self (show i / 8 < A.length by omega), Option.getD_some]
      rw [e]
      congr 2
      apply BitVec.eq_of_getLsbD_eq
      intro k hk
      have hx : ∀ m, 8 ≤ m → (BitVec.ofInt 64 x).getLsbD m = false := by
        intro m hm
        have e2 : (BitVec.ofInt 64 x) = BitVec.ofNat 64 x.toNat := by
          apply BitVec.eq_of_toNat_eq
          rw [BitVec.toNat_ofInt, BitVec.toNat_ofNat]
          omega
        rw [e2, BitVec.getLsbD_ofNat]
        have : x.toNat < 2 ^ m := by
          have : 2 ^ 8 ≤ 2 ^ m := Nat.pow_le_pow_right (by omega) hm
          omega
        rw [Nat.testBit_lt_two_pow this]; simp
      simp only [BitVec.getLsbD_setWidth, BitVec.getLsbD_ushiftRight, BitVec.getLsbD_xor, BitVec.getLsbD_shiftLeft]
      by_cases c1 : 8 * (i % 8) + k < 8 * (p % 8)
      · simp [c1]
      · have : 8 ≤ 8 * (i % 8) + k - 8 * (p % 8) := by omega
        rw [hx _ this]; simp
    · unfold mixA
      simp only [nl, List.getD_eq_getElem?_getD]
      rw [List.getElem?_eq_none (by simp; omega), List.getElem?_eq_none (by omega)]
  · unfold mixA
    simp only [nl, List.getD_eq_getElem?_getD, List.getElem?_set_ne hl]
theorem byteS_zero (i : Nat) : byteS (zL 25) i = 0 := by
  rw [byteS_eq]
  have : nl (zL 25) (i / 8) = 0 := by
    unfold zL nl
    rw [List.getD_eq_getElem?_getD, List.getElem?_replicate]
    split <;> rfl
  rw [this]; simp

/-- Taking few bytes: how far, and what is not touched. -/
theorem takeL_low {R : Nat} : ∀ (L : List Int) (A : List Ln) (q : Nat), A.length = 25 → (∀ y ∈ L, 0 ≤ y ∧ y < 256) → q + L.length < R →
    (takeL R (A, q) L).2 = q + L.length ∧ ∀ i, q + L.length ≤ i → byteS (takeL R (A, q) L).1 i = byteS A i
  | [], A, q, hA, _, _ => ⟨rfl, fun i _ => rfl⟩
  | x :: L, A, q, hA, hB, hq => by
    simp only [List.length_cons] at hq
    have e : takeL R (A, q) (x :: L) = takeL R (mixA A q x, q + 1) L := by
      show takeL R (tk1 R (A, q) x) L = _
      have : tk1 R (A, q) x = (mixA A q x, q + 1) := if_neg (by show ¬ q + 1 = R; omega)
      rw [this]
    rw [e]
    obtain ⟨h1, h2⟩ := takeL_low (R := R) L (mixA A q x) (q + 1) (by rw [mixA_len]; exact hA) (fun y hy => hB y (by simp [hy])) (by omega)
    refine ⟨by rw [h1, List.length_cons]; omega, fun i hi => ?_⟩
    simp only [List.length_cons] at hi
    exact (h2 i (by omega)).trans (byteS_mix hA (hB x (by simp)).1 (hB x (by simp)).2 (by omega))

/-! ### The stream -/

/-- The k-th byte. -/
def bt (R : Nat) (S : List Ln × Nat) (k : Nat) : Int := outB (outS R (nextN R S k))
theorem bt_in (R : Nat) (S : List Ln × Nat) (k : Nat) : 0 ≤ bt R S k ∧ bt R S k < 256 := outB_in _
theorem nextN_at {R : Nat} (A : List Ln) (t : Nat) : ∀ i, i < R → nextN R (A, 0) (R * t + (i + 1)) = (perms A t, i + 1) := by
  induction t with
  | zero =>
    intro i
    induction i with
    | zero => intro h; show ((outS R (A, 0)).1, (outS R (A, 0)).2 + 1) = _
              have : outS R (A, 0) = (A, 0) := if_neg (by show ¬ 0 = R; omega)
              rw [this]; rfl
    | succ i ih =>
      intro h
      have := ih (by omega)
      simp only [Nat.mul_zero, Nat.zero_add] at this ⊢
      show ((outS R (nextN R (A, 0) (i + 1))).1, (outS R (nextN R (A, 0) (i + 1))).2 + 1) = _
      rw [this]
      have : outS R (perms A 0, i + 1) = (perms A 0, i + 1) := if_neg (by show ¬ i + 1 = R; omega)
      rw [this]
  | succ t iht =>
    intro i
    induction i with
    | zero =>
      intro h
      have h1 := iht (R - 1) (by omega)
      have e : R * t + (R - 1 + 1) = R * (t + 1) + 0 := by rw [Nat.mul_succ]; omega
      rw [e, Nat.add_zero] at h1
      show ((outS R (nextN R (A, 0) (R * (t + 1)))).1, (outS R (nextN R (A, 0) (R * (t + 1)))).2 + 1) = _
      rw [h1]
      have : outS R (perms A t, R - 1 + 1) = (perm (perms A t), 0) := if_pos (by show R - 1 + 1 = R; omega)
      rw [this]; rfl
    | succ i ih =>
      intro h
      have := ih (by omega)
      show ((outS R (nextN R (A, 0) (R * (t + 1) + (i + 1)))).1, (outS R (nextN R (A, 0) (R * (t + 1) + (i + 1)))).2 + 1) = _
      rw [this]
      have : outS R (perms A (t + 1), i + 1) = (perms A (t + 1), i + 1) := if_neg (by show ¬ i + 1 = R; omega)
      rw [this]
theorem bt_at {R : Nat} (A : List Ln) (t i : Nat) (hi : i < R) : bt R (A, 0) (R * t + i) = byteS (perms A t) i := by
  unfold bt byteS
  cases i with
  | succ i => rw [nextN_at A t i (by omega)]; congr 1; exact if_neg (by show ¬ i + 1 = R; omega)
  | zero =>
    cases t with
    | zero => congr 1; exact if_neg (by show ¬ 0 = R; omega)
    | succ t =>
      have h1 := nextN_at (R := R) A t (R - 1) (by omega)
      have e : R * t + (R - 1 + 1) = R * (t + 1) + 0 := by rw [Nat.mul_succ]; omega
      rw [e] at h1
      rw [h1]
      have : outS R (perms A t, R - 1 + 1) = (perm (perms A t), 0) := if_pos (by show R - 1 + 1 = R; omega)
      rw [this]; rfl

/-- Again and again, zeros come where the padded block has them. -/
theorem bt_zeros {R : Nat} {X : Int} (x0 : 0 ≤ X) (x1 : X < 256) {L : List Int} (hB : ∀ y ∈ L, 0 ≤ y ∧ y < 256) (hl : L.length + 1 < R) :
    ∀ K, ∃ t, K ≤ t ∧ ∀ i, L.length < i → i < R - 1 → bt R (padS R X (takeL R (zL 25, 0) L)) (R * t + i) = 0 := by
  intro K
  obtain ⟨h1, h2⟩ := takeL_low (R := R) L (zL 25) 0 (by simp [zL]) hB (by omega)
  have h25 := (takeL_ok (R := R) L (S := (zL 25, 0)) (by simp [zL]) (by show 0 < R; omega)).1
  generalize takeL R (zL 25, 0) L = T at *
  obtain ⟨A, q⟩ := T
  simp only [Nat.zero_add] at h1 h2 h25
  subst h1
  have hM1 : (mixA A L.length X).length = 25 := by rw [mixA_len]; exact h25
  have hM : (mixA (mixA A L.length X) (R - 1) 128).length = 25 := by rw [mixA_len]; exact hM1
  have hz : ∀ i, L.length < i → i < R - 1 → byteS (mixA (mixA A L.length X) (R - 1) 128) i = 0 := by
    intro i h3 h4
    exact (byteS_mix hM1 (by omega) (by omega) (by omega)).trans ((byteS_mix h25 x0 x1 (by omega)).trans ((h2 i (by omega)).trans (byteS_zero i)))
  have hp : padS R X (A, L.length) = (perm (mixA (mixA A L.length X) (R - 1) 128), 0) := rfl
  rw [hp]
  generalize mixA (mixA A L.length X) (R - 1) 128 = M at *
  obtain ⟨p, p0, hr⟩ := perms_round hM
  refine ⟨p * (K + 1) - 1, ?_, fun i h3 h4 => ?_⟩
  · have : K + 1 ≤ p * (K + 1) := Nat.le_mul_of_pos_left _ p0
    omega
  · rw [bt_at _ _ _ (by omega)]
    have e1 : perms (perm M) (p * (K + 1) - 1) = perms M (p * (K + 1)) := by
      have : p * (K + 1) = 1 + (p * (K + 1) - 1) := by
        have : 0 < p * (K + 1) := Nat.mul_pos p0 (by omega)
        omega
      rw [this, perms_add]
      simp only [Nat.add_sub_cancel_left]; rfl
    rw [e1, perms_rounds hr, hz i h3 h4]

/-- The first of many. -/
theorem least {P : Nat → Prop} : ∀ n, P n → ∃ m, m ≤ n ∧ P m ∧ ∀ k, k < m → ¬ P k
  | 0, h => ⟨0, Nat.le_refl _, h, fun k hk => by omega⟩
  | n + 1, h => by
    by_cases h0 : ∃ k, k ≤ n ∧ P k
    · obtain ⟨k, hk, hp⟩ := h0
      obtain ⟨m, h1, h2, h3⟩ := least k hp
      exact ⟨m, by omega, h2, h3⟩
    · exact ⟨n + 1, Nat.le_refl _, h, fun k hk hp => h0 ⟨k, by omega, hp⟩⟩

/-- So many bytes from there on. -/
def bts (R : Nat) (S : List Ln × Nat) (a n : Nat) : List Int := (List.range n).map fun i => bt R S (a + i)
theorem bts_len (R : Nat) (S : List Ln × Nat) (a n : Nat) : (bts R S a n).length = n := by simp [bts]
theorem bts_outL (R : Nat) (S : List Ln × Nat) (a n : Nat) : outL R (nextN R S a) n = bts R S a n := by
  unfold outL bts bt
  apply List.map_congr_left
  intro i _
  rw [nextN_add]
theorem bts_ni (R : Nat) (S : List Ln × Nat) (a n : Nat) {i : Nat} (h : i < n) : ni (bts R S a n) i = bt R S (a + i) := by
  rw [ni_get (by rw [bts_len]; exact h)]; simp [bts]
theorem bts_drop (R : Nat) (S : List Ln × Nat) (a n : Nat) : (bts R S a (n + 1)).drop 1 = bts R S (a + 1) n := by
  unfold bts
  rw [List.range_succ_eq_map]
  simp only [List.map_cons, List.map_map, List.drop_succ_cons, List.drop_zero]
  apply List.map_congr_left
  intro i _
  show bt R S (a + (i + 1)) = bt R S (a + 1 + i)
  congr 1; omega
theorem slc_one {k : IntKind} {L : List Int} {n : Nat} (h : 0 < n) : slcV 1 (.sl (nums k L) n) (some (.i .i64 1)) none none = some (.sl (nums k ((L.drop 1).take (n - 1))) (n - 1)) := by
  have e := slcV_sl (sz := 1) (cs := nums k L) (n := n) (l := 1) (h := n) (lo := some (.i .i64 1)) (hi := none) (by simp [idxO, idx]) rfl (by omega) (Nat.le_refl _)
  rw [e]
  simp only [Nat.mul_one, nums_drop, nums_take]

/-- The program's stream behind k bytes: its sponge, its buffer. -/
def strC (R : Nat) (X : Int) (T : List Ln × Nat) : Nat → List AV
  | 0 => spC T.1 R X T.2 false
  | k + 1 => spC (nextN R (padS R X T) (136 * (k / 136 + 1))).1 R X (nextN R (padS R X T) (136 * (k / 136 + 1))).2 true
def strB (R : Nat) (X : Int) (T : List Ln × Nat) : Nat → AV
  | 0 => .z
  | k + 1 => .sl (nums .u8 (bts R (padS R X T) (k + 1) (136 * (k / 136 + 1) - (k + 1)))) (136 * (k / 136 + 1) - (k + 1))
theorem strB_flat (R : Nat) (X : Int) (T : List Ln × Nat) (k : Nat) : (strB R X T k).flat = true := by cases k <;> rfl
/-- The document's. -/
def strD (R : Nat) (X : Int) (T : List Ln × Nat) : Nat → List AV
  | 0 => spD T.1 R X T.2 false
  | k + 1 => spD (nextN R (padS R X T) (k + 1)).1 R X (nextN R (padS R X T) (k + 1)).2 true

end Zab

namespace Zab
open Go
set_option linter.unusedVariables false

/-! ### Lists that grow -/

/-- What grows again and again gets as long as one likes; the first time is taken. -/
theorem grows {u : Nat → List Int} (mono : ∀ i, (u i).length ≤ (u (i + 1)).length) (again : ∀ i, ∃ j, i ≤ j ∧ (u j).length < (u (j + 1)).length) : ∀ n, ∃ i, n ≤ (u i).length
  | 0 => ⟨0, Nat.zero_le _⟩
  | n + 1 => by
    obtain ⟨i, hi⟩ := grows mono again n
    obtain ⟨j, hj, hl⟩ := again i
    have hm : ∀ d, (u i).length ≤ (u (i + d)).length := by
      intro d
      induction d with
      | zero => exact Nat.le_refl _
      | succ d ih => exact Nat.le_trans ih (mono (i + d))
    have := hm (j - i)
    rw [show i + (j - i) = j by omega] at this
    exact ⟨j + 1, by omega⟩
theorem first_long {u : Nat → List Int} (mono : ∀ i, (u i).length ≤ (u (i + 1)).length) (again : ∀ i, ∃ j, i ≤ j ∧ (u j).length < (u (j + 1)).length) (n : Nat) : ∃ N, n ≤ (u N).length ∧ ∀ i, i < N → (u i).length < n := by
  obtain ⟨i, hi⟩ := grows mono again n
  obtain ⟨N, _, h1, h2⟩ := least (P := fun i => n ≤ (u i).length) i hi
  exact ⟨N, h1, fun k hk => Nat.lt_of_not_le (h2 k hk)⟩

/-! ### Numbers below 3329 -/

def uni1 (O : List Int) (x : Int) : List Int := if x < 3329 then O ++ [x] else O
def uni2 (O : List Int) (y : Int) : List Int := if y < 3329 ∧ O.length < 256 then O ++ [y] else O
def uX (f : Nat → Int) (i : Nat) : Int := f (3 * i) + 256 * (f (3 * i + 1) % 16)
def uY (f : Nat → Int) (i : Nat) : Int := f (3 * i + 1) / 16 + 16 * f (3 * i + 2)
def uni (f : Nat → Int) : Nat → List Int
  | 0 => []
  | i + 1 => uni2 (uni1 (uni f i) (uX f i)) (uY f i)
theorem uni1_len (O : List Int) (x : Int) : O.length ≤ (uni1 O x).length ∧ (uni1 O x).length ≤ O.length + 1 := by unfold uni1; split <;> simp
theorem uni2_len (O : List Int) (x : Int) : O.length ≤ (uni2 O x).length ∧ (O.length ≤ 256 → (uni2 O x).length ≤ 256) := by
  unfold uni2; split
  · rename_i h; simp; omega
  · exact ⟨Nat.le_refl _, id⟩
theorem uni_mono (f : Nat → Int) (i : Nat) : (uni f i).length ≤ (uni f (i + 1)).length := Nat.le_trans (uni1_len _ (uX f i)).1 (uni2_len _ (uY f i)).1
theorem uni_up (f : Nat → Int) (i : Nat) (h : uX f i < 3329) : (uni f i).length < (uni f (i + 1)).length := by
  have h1 : (uni1 (uni f i) (uX f i)).length = (uni f i).length + 1 := by unfold uni1; rw [if_pos h]; simp
  have h2 := (uni2_len (uni1 (uni f i) (uX f i)) (uY f i)).1
  show _ < (uni2 (uni1 (uni f i) (uX f i)) (uY f i)).length
  omega
/-- Behind so many bytes there are 256. -/
theorem uni_end {f : Nat → Int} (again : ∀ i, ∃ j, i ≤ j ∧ uX f j < 3329) : ∃ N, (uni f N).length = 256 ∧ ∀ i, i < N → (uni f i).length < 256 := by
  obtain ⟨N, h1, h2⟩ := first_long (uni_mono f) (fun i => by obtain ⟨j, h3, h4⟩ := again i; exact ⟨j, h3, uni_up f j h4⟩) 256
  refine ⟨N, ?_, h2⟩
  cases N with
  | zero => exact absurd h1 (by simp [uni])
  | succ N =>
    have h3 := h2 N (by omega)
    have h4 := (uni1_len (uni f N) (uX f N)).2
    have h5 := (uni2_len (uni1 (uni f N) (uX f N)) (uY f N)).2 (by omega)
    have : (uni f (N + 1)).length ≤ 256 := h5
    omega

/-! ### Numbers below 8380417 -/

def pX (f : Nat → Int) (i : Nat) : Int := f (3 * i) + 256 * f (3 * i + 1) + 65536 * (f (3 * i + 2) % 128)
def prm1 (O : List Int) (x : Int) : List Int := if x < 8380417 then O ++ [x] else O
def prm (f : Nat → Int) : Nat → List Int
  | 0 => []
  | i + 1 => prm1 (prm f i) (pX f i)
theorem prm1_len (O : List Int) (x : Int) : O.length ≤ (prm1 O x).length ∧ (prm1 O x).length ≤ O.length + 1 := by unfold prm1; split <;> simp
theorem prm_end {f : Nat → Int} (again : ∀ i, ∃ j, i ≤ j ∧ pX f j < 8380417) : ∃ N, (prm f N).length = 256 ∧ ∀ i, i < N → (prm f i).length < 256 := by
  obtain ⟨N, h1, h2⟩ := first_long (u := prm f) (fun i => (prm1_len _ (pX f i)).1) (fun i => by
    obtain ⟨j, h3, h4⟩ := again i
    refine ⟨j, h3, ?_⟩
    show _ < (prm1 (prm f j) (pX f j)).length
    unfold prm1; rw [if_pos h4]; simp) 256
  refine ⟨N, ?_, h2⟩
  cases N with
  | zero => exact absurd h1 (by simp [prm])
  | succ N =>
    have h3 := h2 N (by omega)
    have h4 := (prm1_len (prm f N) (pX f N)).2
    have : (prm f (N + 1)).length ≤ (prm f N).length + 1 := h4
    omega

/-- Three zeros, again and again. -/
theorem zeros3 {X : Int} (x0 : 0 ≤ X) (x1 : X < 256) {L : List Int} (hB : ∀ y ∈ L, 0 ≤ y ∧ y < 256) (hl : L.length ≤ 102) :
    ∀ i, ∃ j, i ≤ j ∧ bt 168 (padS 168 X (takeL 168 (zL 25, 0) L)) (3 * j) = 0 ∧ bt 168 (padS 168 X (takeL 168 (zL 25, 0) L)) (3 * j + 1) = 0 ∧ bt 168 (padS 168 X (takeL 168 (zL 25, 0) L)) (3 * j + 2) = 0 := by
  intro i
  obtain ⟨t, ht, hz⟩ := bt_zeros (R := 168) x0 x1 hB (by omega) i
  refine ⟨56 * t + 35, by omega, ?_, ?_, ?_⟩
  · rw [show 3 * (56 * t + 35) = 168 * t + 105 by omega]; exact hz 105 (by omega) (by omega)
  · rw [show 3 * (56 * t + 35) + 1 = 168 * t + 106 by omega]; exact hz 106 (by omega) (by omega)
  · rw [show 3 * (56 * t + 35) + 2 = 168 * t + 107 by omega]; exact hz 107 (by omega) (by omega)
end Zab

namespace Zab
open Go
open Go.IntWalk (i64_in)
set_option linter.unusedVariables false

theorem toNat_ofInt64 {a : Nat} (h : a < 2 ^ 63) : (BitVec.ofInt 64 (a : Int)).toNat = a := by
  rw [BitVec.toNat_ofInt]
  have : ((a : Int) % ((2 ^ 64 : Nat) : Int)) = a := Int.emod_eq_of_lt (by omega) (by omega)
  rw [this]; simp
theorem wrap_nat {a : Nat} (h : a < 2 ^ 63) : IntKind.i64.wrap (a : Int) = a := i64_in _ (by omega)
/-- The lowest bit. -/
theorem and_one {a : Nat} (h : a < 2 ^ 63) : bitV .and .i64 (a : Int) 1 = some (.i .i64 ((a % 2 : Nat) : Int)) := by
  unfold bitV
  have e : (BitVec.ofInt IntKind.i64.bits (a : Int) &&& BitVec.ofInt IntKind.i64.bits 1).toNat = a % 2 := by
    rw [BitVec.toNat_and]
    show (BitVec.ofInt 64 (a : Int)).toNat &&& (BitVec.ofInt 64 ((1 : Nat) : Int)).toNat = _
    rw [toNat_ofInt64 h, toNat_ofInt64 (by decide), Nat.and_one_is_mod]
  simp only [e, wrap_nat (show a % 2 < 2 ^ 63 by omega)]
/-- A bit behind an even number. -/
theorem or_low {a b i : Nat} (h : a * 2 ^ i + b < 2 ^ 63) (hb : b < 2 ^ i) : bitV .or .i64 ((a * 2 ^ i : Nat) : Int) (b : Int) = some (.i .i64 ((a * 2 ^ i + b : Nat) : Int)) := by
  unfold bitV
  have e : (BitVec.ofInt IntKind.i64.bits ((a * 2 ^ i : Nat) : Int) ||| BitVec.ofInt IntKind.i64.bits (b : Int)).toNat = a * 2 ^ i + b := by
    rw [BitVec.toNat_or]
    show (BitVec.ofInt 64 ((a * 2 ^ i : Nat) : Int)).toNat ||| (BitVec.ofInt 64 (b : Int)).toNat = _
    rw [toNat_ofInt64 (by omega), toNat_ofInt64 (by omega), ← Nat.shiftLeft_eq, ← Nat.shiftLeft_add_eq_or_of_lt hb]
  simp only [e, wrap_nat h]
theorem pow_le {d e : Nat} (h : d ≤ e) : 2 ^ d ≤ 2 ^ e := Nat.pow_le_pow_right (by omega) h
/-- 1, so many steps up. -/
theorem shl_one {d : Nat} (h : d ≤ 62) : shiftV .shl .i64 1 (d : Int) = some (.i .i64 ((2 ^ d : Nat) : Int)) := by
  have h1 : min (d : Int).toNat IntKind.i64.bits = d := by
    rw [Int.toNat_natCast]; show min d 64 = d; omega
  have := pow_le h
  unfold shiftV
  rw [show decide ((d : Int) < 0) = false by simp]
  simp only [cond_false, h1]
  rw [Int.one_mul, show (2 : Int) ^ d = ((2 ^ d : Nat) : Int) by simp, wrap_nat (by omega)]
theorem shl_by {a d : Nat} (h : a * 2 ^ d < 2 ^ 63) (hd : d ≤ 62) : shiftV .shl .i64 (a : Int) (d : Int) = some (.i .i64 ((a * 2 ^ d : Nat) : Int)) := by
  have h1 : min (d : Int).toNat IntKind.i64.bits = d := by
    rw [Int.toNat_natCast]; show min d 64 = d; omega
  unfold shiftV
  rw [show decide ((d : Int) < 0) = false by simp]
  simp only [cond_false, h1]
  rw [show (a : Int) * 2 ^ d = ((a * 2 ^ d : Nat) : Int) by simp, wrap_nat h]
theorem shr_by {a d : Nat} (hd : d ≤ 62) : shiftV .shr .i64 (a : Int) (d : Int) = some (.i .i64 ((a / 2 ^ d : Nat) : Int)) := by
  have h1 : min (d : Int).toNat IntKind.i64.bits = d := by
    rw [Int.toNat_natCast]; show min d 64 = d; omega
  unfold shiftV
  rw [show decide ((d : Int) < 0) = false by simp]
  simp only [cond_false, h1]
  rw [show (2 : Int) ^ d = ((2 ^ d : Nat) : Int) by simp, Int.fdiv_eq_ediv_of_nonneg _ (Int.natCast_nonneg _)]
  rfl
theorem u64_small {a : Nat} (h : a < 2 ^ 63) : IntKind.u64.wrap (a : Int) = a := by
  have : IntKind.u64.wrap (a : Int) = (a : Int) % 18446744073709551616 := rfl
  rw [this]; omega
end Zab

namespace Zab
open Go
open Go.IntWalk (i64_in)
set_option linter.unusedVariables false

/-! ### Words as numbers -/

theorem ofInt_nat {w a : Nat} (h : a < 2 ^ w) : (BitVec.ofInt w (a : Int)).toNat = a := by
  rw [BitVec.toNat_ofInt]
  have : ((a : Int) % ((2 ^ w : Nat) : Int)) = a := Int.emod_eq_of_lt (by omega) (by exact_mod_cast h)
  rw [this]; simp
theorem u64_nat {a : Nat} (h : a < 2 ^ 64) : IntKind.u64.wrap (a : Int) = a := by
  have : IntKind.u64.wrap (a : Int) = (a : Int) % 18446744073709551616 := rfl
  rw [this]; omega
theorem u8_nat {a : Nat} (h : a < 256) : IntKind.u8.wrap (a : Int) = a := by
  have : IntKind.u8.wrap (a : Int) = (a : Int) % 256 := rfl
  rw [this]; omega
theorem or_add {a b i : Nat} (h : a < 2 ^ i) : a ||| b * 2 ^ i = a + b * 2 ^ i := by
  rw [Nat.or_comm, ← Nat.shiftLeft_eq, ← Nat.shiftLeft_add_eq_or_of_lt h, Nat.add_comm]
theorem u64_or {a b i c : Nat} (ha : a < 2 ^ i) (hc : c = a + b * 2 ^ i) (h : c < 2 ^ 64) : bitV .or .u64 (a : Int) ((b * 2 ^ i : Nat) : Int) = some (.i .u64 (c : Int)) := by
  unfold bitV
  have e : (BitVec.ofInt IntKind.u64.bits (a : Int) ||| BitVec.ofInt IntKind.u64.bits ((b * 2 ^ i : Nat) : Int)).toNat = c := by
    rw [BitVec.toNat_or]
    show (BitVec.ofInt 64 (a : Int)).toNat ||| (BitVec.ofInt 64 ((b * 2 ^ i : Nat) : Int)).toNat = _
    rw [ofInt_nat (by omega), ofInt_nat (by omega), or_add ha, hc]
  simp only [e, u64_nat h]
theorem i64_or {a b i c : Nat} (ha : a < 2 ^ i) (hc : c = a + b * 2 ^ i) (h : c < 2 ^ 63) : bitV .or .i64 (a : Int) ((b * 2 ^ i : Nat) : Int) = some (.i .i64 (c : Int)) := by
  unfold bitV
  have e : (BitVec.ofInt IntKind.i64.bits (a : Int) ||| BitVec.ofInt IntKind.i64.bits ((b * 2 ^ i : Nat) : Int)).toNat = c := by
    rw [BitVec.toNat_or]
    show (BitVec.ofInt 64 (a : Int)).toNat ||| (BitVec.ofInt 64 ((b * 2 ^ i : Nat) : Int)).toNat = _
    rw [ofInt_nat (by omega), ofInt_nat (by omega), or_add ha, hc]
  simp only [e, wrap_nat h]
theorem u8_or {a b i c : Nat} (ha : a < 2 ^ i) (hc : c = a + b * 2 ^ i) (h : c < 256) : bitV .or .u8 (a : Int) ((b * 2 ^ i : Nat) : Int) = some (.i .u8 (c : Int)) := by
  unfold bitV
  have e : (BitVec.ofInt IntKind.u8.bits (a : Int) ||| BitVec.ofInt IntKind.u8.bits ((b * 2 ^ i : Nat) : Int)).toNat = c := by
    rw [BitVec.toNat_or]
    show (BitVec.ofInt 8 (a : Int)).toNat ||| (BitVec.ofInt 8 ((b * 2 ^ i : Nat) : Int)).toNat = _
    rw [ofInt_nat (by omega), ofInt_nat (by omega), or_add ha, hc]
  simp only [e, u8_nat h]
theorem u64_low {a d : Nat} (ha : a < 2 ^ 64) (hd : d < 64) : bitV .and .u64 (a : Int) ((2 ^ d - 1 : Nat) : Int) = some (.i .u64 ((a % 2 ^ d : Nat) : Int)) := by
  unfold bitV
  have hp : 2 ^ d ≤ 2 ^ 63 := pow_le (by omega)
  have e : (BitVec.ofInt IntKind.u64.bits (a : Int) &&& BitVec.ofInt IntKind.u64.bits ((2 ^ d - 1 : Nat) : Int)).toNat = a % 2 ^ d := by
    rw [BitVec.toNat_and]
    show (BitVec.ofInt 64 (a : Int)).toNat &&& (BitVec.ofInt 64 ((2 ^ d - 1 : Nat) : Int)).toNat = _
    rw [ofInt_nat ha, ofInt_nat (by omega), Nat.and_two_pow_sub_one_eq_mod]
  have : a % 2 ^ d ≤ a := Nat.mod_le _ _
  simp only [e, u64_nat (show a % 2 ^ d < 2 ^ 64 by omega)]
theorem u8_one {a : Nat} (ha : a < 256) : bitV .and .u8 (a : Int) 1 = some (.i .u8 ((a % 2 : Nat) : Int)) := by
  unfold bitV
  have e : (BitVec.ofInt IntKind.u8.bits (a : Int) &&& BitVec.ofInt IntKind.u8.bits 1).toNat = a % 2 := by
    rw [BitVec.toNat_and]
    show (BitVec.ofInt 8 (a : Int)).toNat &&& (BitVec.ofInt 8 ((1 : Nat) : Int)).toNat = _
    rw [ofInt_nat (by omega), ofInt_nat (by decide), Nat.and_one_is_mod]
  simp only [e, u8_nat (show a % 2 < 256 by omega)]
theorem shl_at {k : IntKind} {a d : Nat} (hd : d ≤ k.bits) (hw : k.wrap ((a * 2 ^ d : Nat) : Int) = ((a * 2 ^ d : Nat) : Int)) : shiftV .shl k (a : Int) (d : Int) = some (.i k ((a * 2 ^ d : Nat) : Int)) := by
  have h1 : min (d : Int).toNat k.bits = d := by rw [Int.toNat_natCast]; omega
  unfold shiftV
  rw [show decide ((d : Int) < 0) = false by simp]
  simp only [cond_false, h1]
  rw [show (a : Int) * 2 ^ d = ((a * 2 ^ d : Nat) : Int) by simp, hw]
theorem shr_at {k : IntKind} {a d : Nat} (hd : d ≤ k.bits) : shiftV .shr k (a : Int) (d : Int) = some (.i k ((a / 2 ^ d : Nat) : Int)) := by
  have h1 : min (d : Int).toNat k.bits = d := by rw [Int.toNat_natCast]; omega
  unfold shiftV
  rw [show decide ((d : Int) < 0) = false by simp]
  simp only [cond_false, h1]
  rw [show (2 : Int) ^ d = ((2 ^ d : Nat) : Int) by simp, Int.fdiv_eq_ediv_of_nonneg _ (Int.natCast_nonneg _)]
  rfl
theorem u64_shl {a d : Nat} (h : a * 2 ^ d < 2 ^ 64) (hd : d ≤ 64) : shiftV .shl .u64 (a : Int) (d : Int) = some (.i .u64 ((a * 2 ^ d : Nat) : Int)) := shl_at hd (u64_nat h)
theorem u64_shr {a d : Nat} (hd : d ≤ 64) : shiftV .shr .u64 (a : Int) (d : Int) = some (.i .u64 ((a / 2 ^ d : Nat) : Int)) := shr_at hd
theorem u8_shr {a d : Nat} (hd : d ≤ 8) : shiftV .shr .u8 (a : Int) (d : Int) = some (.i .u8 ((a / 2 ^ d : Nat) : Int)) := shr_at hd

/-! ### Bytes as one number -/

def val : List Int → Nat
  | [] => 0
  | y :: L => y.toNat + 256 * val L
theorem pow8 (m : Nat) : 256 ^ m = 2 ^ (8 * m) := by rw [Nat.pow_mul]
theorem val_lt : ∀ {L : List Int}, (∀ y ∈ L, 0 ≤ y ∧ y < 256) → val L < 2 ^ (8 * L.length)
  | [], _ => by simp [val]
  | y :: L, h => by
    have h1 := val_lt (L := L) (fun z hz => h z (List.mem_cons_of_mem _ hz))
    obtain ⟨h2, h3⟩ := h y List.mem_cons_self
    have : 2 ^ (8 * (y :: L).length) = 256 * 2 ^ (8 * L.length) := by
      rw [List.length_cons, show 8 * (L.length + 1) = 8 * L.length + 8 by omega, Nat.pow_add]; omega
    rw [this, val]
    omega
theorem val_app : ∀ (L M : List Int), val (L ++ M) = val L + 2 ^ (8 * L.length) * val M
  | [], M => by simp [val]
  | y :: L, M => by
    rw [List.cons_append, val, val, val_app L M, List.length_cons, show 8 * (L.length + 1) = 8 * L.length + 8 by omega, Nat.pow_add, Nat.mul_add]
    rw [show 2 ^ (8 * L.length) * 2 ^ 8 * val M = 256 * (2 ^ (8 * L.length) * val M) by rw [Nat.mul_right_comm, Nat.mul_comm]]
    omega
theorem val_cut {L : List Int} (h : ∀ y ∈ L, 0 ≤ y ∧ y < 256) {m : Nat} (hm : m ≤ L.length) : val (L.take m) = val L % 2 ^ (8 * m) := by
  have e : val L = val (L.take m) + 2 ^ (8 * m) * val (L.drop m) := by
    have := val_app (L.take m) (L.drop m)
    rwa [List.take_append_drop, List.length_take, Nat.min_eq_left hm] at this
  have hl := val_lt (L := L.take m) (fun y hy => h y (List.mem_of_mem_take hy))
  rw [List.length_take, Nat.min_eq_left hm] at hl
  rw [e, Nat.add_mul_mod_self_left, Nat.mod_eq_of_lt hl]
theorem val_next {L : List Int} {m : Nat} (hm : m < L.length) : val (L.take (m + 1)) = val (L.take m) + 2 ^ (8 * m) * (ni L m).toNat := by
  rw [List.take_succ_eq_append_getElem hm, val_app, List.length_take, Nat.min_eq_left (by omega)]
  have : ni L m = L[m] := by simp [ni, hm]
  rw [this]
  simp [val]
theorem val_byte {L : List Int} (h : ∀ y ∈ L, 0 ≤ y ∧ y < 256) {m : Nat} (hm : m < L.length) : (ni L m).toNat = val L / 2 ^ (8 * m) % 256 := by
  have h1 := val_cut h (m := m + 1) hm
  rw [val_next hm] at h1
  have hl := val_lt (L := L.take m) (fun y hy => h y (List.mem_of_mem_take hy))
  rw [List.length_take, Nat.min_eq_left (by omega)] at hl
  have e : 2 ^ (8 * (m + 1)) = 2 ^ (8 * m) * 256 := by rw [show 8 * (m + 1) = 8 * m + 8 by omega, Nat.pow_add]
  rw [e] at h1
  have h2 : val L % (2 ^ (8 * m) * 256) / 2 ^ (8 * m) = val L / 2 ^ (8 * m) % 256 := Nat.mod_mul_right_div_self _ _ _
  rw [← h2, ← h1, Nat.add_mul_div_left _ _ (Nat.pow_pos (by omega)), Nat.div_eq_of_lt hl, Nat.zero_add]

/-! ### Numbers of d bits -/

def opn (d V i : Nat) : Nat := V / 2 ^ (d * i) % 2 ^ d
def opnL (d V n : Nat) : List Int := (List.range n).map fun i => (opn d V i : Int)
theorem opnL_len (d V n : Nat) : (opnL d V n).length = n := by simp [opnL]
theorem opnL_succ (d V n : Nat) : opnL d V (n + 1) = opnL d V n ++ [(opn d V n : Int)] := by simp [opnL, List.range_succ]
theorem opn_lt (d V i : Nat) : opn d V i < 2 ^ d := Nat.mod_lt _ (Nat.pow_pos (by omega))
theorem opnL_ni (d V : Nat) {n i : Nat} (h : i < n) : ni (opnL d V n) i = (opn d V i : Int) := by simp [ni, opnL, h]
/-- What is left of m bytes when c numbers are out. -/
def rst (d V m c : Nat) : Nat := V % 2 ^ (8 * m) / 2 ^ (d * c)
theorem rst_lt {d V m c : Nat} (h : d * c ≤ 8 * m) : rst d V m c < 2 ^ (8 * m - d * c) := by
  unfold rst
  rw [Nat.div_lt_iff_lt_mul (Nat.pow_pos (by omega)), ← Nat.pow_add, Nat.sub_add_cancel h]
  exact Nat.mod_lt _ (Nat.pow_pos (by omega))
theorem rst_byte {d c m : Nat} {L : List Int} (hB : ∀ y ∈ L, 0 ≤ y ∧ y < 256) (hm : m < L.length) (h : d * c ≤ 8 * m) : rst d (val L) (m + 1) c = rst d (val L) m c + (ni L m).toNat * 2 ^ (8 * m - d * c) := by
  unfold rst
  rw [← val_cut hB (show m + 1 ≤ L.length from hm), ← val_cut hB (show m ≤ L.length by omega), val_next hm]
  have e : 2 ^ (8 * m) = 2 ^ (d * c) * 2 ^ (8 * m - d * c) := by rw [← Nat.pow_add, Nat.add_sub_cancel' h]
  rw [e, Nat.mul_assoc, Nat.add_mul_div_left _ _ (Nat.pow_pos (by omega)), Nat.mul_comm (2 ^ (8 * m - d * c))]
theorem rst_out {d V m c : Nat} (h : d * (c + 1) ≤ 8 * m) : rst d V m c % 2 ^ d = opn d V c := by
  unfold rst opn
  rw [Nat.mul_add, Nat.mul_one] at h
  have e : 2 ^ (8 * m) = 2 ^ (d * c) * 2 ^ (8 * m - d * c) := by rw [← Nat.pow_add, Nat.add_sub_cancel' (by omega)]
  rw [e, Nat.mod_mul_right_div_self]
  exact Nat.mod_mod_of_dvd _ (Nat.pow_dvd_pow 2 (by omega))
theorem rst_next (d V m c : Nat) : rst d V m c / 2 ^ d = rst d V m (c + 1) := by
  unfold rst
  rw [Nat.div_div_eq_div_mul, ← Nat.pow_add, Nat.mul_add, Nat.mul_one]
/-- One bit more. -/
theorem opn_bit (d V i k : Nat) : V / 2 ^ (d * i) % 2 ^ (k + 1) = V / 2 ^ (d * i) % 2 ^ k + V / 2 ^ (d * i + k) % 2 * 2 ^ k := by
  rw [Nat.pow_succ, Nat.mod_mul, Nat.pow_add 2 (d * i), Nat.div_div_eq_div_mul, Nat.mul_comm (2 ^ k)]
theorem val_bit {L : List Int} (h : ∀ y ∈ L, 0 ≤ y ∧ y < 256) {a : Nat} (ha : a / 8 < L.length) : (ni L (a / 8)).toNat / 2 ^ (a % 8) % 2 = val L / 2 ^ a % 2 := by
  rw [val_byte h ha]
  have h8 : a % 8 < 8 := Nat.mod_lt _ (by omega)
  have e : 256 = 2 ^ (a % 8) * 2 ^ (8 - a % 8) := by rw [← Nat.pow_add, Nat.add_sub_cancel' (by omega)]
  have e2 : (256 : Nat) = 2 ^ 8 := rfl
  conv => lhs; rw [e]
  rw [Nat.mod_mul_right_div_self, Nat.div_div_eq_div_mul, ← Nat.pow_add, show 8 * (a / 8) + a % 8 = a by omega]
  exact Nat.mod_mod_of_dvd _ (by have := Nat.pow_dvd_pow 2 (show 1 ≤ 8 - a % 8 by omega); simpa using this)

/-! ### Numbers that are turned in place -/

def turnTo (g h : Nat → Int) (N i : Nat) : List Int := (List.range N).map fun j => if j < i then g j else h j
theorem turnTo_len (g h : Nat → Int) (N i : Nat) : (turnTo g h N i).length = N := by simp [turnTo]
theorem turnTo_zero (g h : Nat → Int) (N : Nat) : turnTo g h N 0 = (List.range N).map h := by
  unfold turnTo
  apply List.map_congr_left
  intro j hj
  rw [if_neg (Nat.not_lt_zero j)]
theorem turnTo_all (g h : Nat → Int) (N : Nat) : turnTo g h N N = (List.range N).map g := by
  unfold turnTo
  apply List.map_congr_left
  intro j hj
  rw [if_pos (List.mem_range.1 hj)]
theorem turnTo_set (g h : Nat → Int) {N i : Nat} (hi : i < N) : (turnTo g h N i).set i (g i) = turnTo g h N (i + 1) := by
  unfold turnTo
  apply List.ext_getElem (by simp)
  intro j p q
  simp only [List.getElem_set, List.getElem_map, List.getElem_range]
  by_cases e : i = j
  · subst e; simp
  · simp only [e, if_false]
    by_cases l : j < i
    · rw [if_pos l, if_pos (by omega)]
    · rw [if_neg l, if_neg (by omega)]
theorem turnTo_ni (g h : Nat → Int) {N i j : Nat} (hj : j < N) (hi : i ≤ j) : ni (turnTo g h N i) j = h j := by
  unfold turnTo
  rw [ni_map hj, if_neg (by omega)]
theorem turnTo_now (g h : Nat → Int) {N i : Nat} (hi : i < N) : ni (turnTo g h N (i + 1)) i = g i := by
  unfold turnTo
  rw [ni_map hi, if_pos (by omega)]
/-- Numbers below a bound, out of bits. -/
def sgnL (high : Int) (d V n : Nat) : List Int := (List.range n).map fun i => high - (opn d V i : Int)
theorem sgnL_len (high : Int) (d V n : Nat) : (sgnL high d V n).length = n := by simp [sgnL]
end Zab

namespace Zab
open Go
set_option linter.unusedVariables false

/-- Eight bytes as one word. -/
def sgn (f : Nat → Int) : Nat → Ln
  | 0 => 0
  | m + 1 => sgn f m ||| (BitVec.ofInt 64 (f m) <<< (8 * m))
def sv (w : Ln) : Int := 1 - 2 * iv (w &&& 1)
/-- The first byte from q on that is at most i. -/
structure IsJ (f : Nat → Int) (i q p : Nat) : Prop where
  le : q ≤ p
  ok : f p ≤ (i : Int)
  no : ∀ k, q ≤ k → k < p → (i : Int) < f k
def bq (p : Nat → Nat) : Nat → Nat
  | 0 => 8
  | m + 1 => p m + 1
def bo (f : Nat → Int) (w : Ln) (tau : Nat) (p : Nat → Nat) : Nat → List Int
  | 0 => List.replicate 256 0
  | m + 1 => ((bo f w tau p m).set (256 - tau + m) (ni (bo f w tau p m) (f (p m)).toNat)).set (f (p m)).toNat (sv (w >>> m))
theorem bo_len (f : Nat → Int) (w : Ln) (tau : Nat) (p : Nat → Nat) : ∀ m, (bo f w tau p m).length = 256
  | 0 => List.length_replicate
  | m + 1 => by rw [bo, List.length_set, List.length_set]; exact bo_len f w tau p m
theorem isJ_ex {f : Nat → Int} (again : ∀ q, ∃ j, q ≤ j ∧ f j = 0) (i q : Nat) : ∃ p, IsJ f i q p := by
  obtain ⟨j, h1, h2⟩ := again q
  obtain ⟨m, h3, h4, h5⟩ := least (P := fun k => f (q + k) ≤ (i : Int)) (j - q) (by show f (q + (j - q)) ≤ _; rw [show q + (j - q) = j by omega, h2]; omega)
  refine ⟨q + m, by omega, h4, fun k hk hl => ?_⟩
  have := h5 (k - q) (by omega)
  rw [show q + (k - q) = k by omega] at this
  omega
noncomputable def posR (G : Nat → Nat → Nat) (a : Nat) : Nat → Nat
  | 0 => G a 8
  | m + 1 => G (a + (m + 1)) (posR G a m + 1)
theorem ball_ex {f : Nat → Int} (again : ∀ q, ∃ j, q ≤ j ∧ f j = 0) (a : Nat) : ∃ p : Nat → Nat, ∀ m, IsJ f (a + m) (bq p m) (p m) := by
  refine ⟨posR (fun i q => Classical.choose (isJ_ex again i q)) a, fun m => ?_⟩
  cases m with
  | zero => exact Classical.choose_spec (isJ_ex again a 8)
  | succ m => exact Classical.choose_spec (isJ_ex again (a + (m + 1)) (posR (fun i q => Classical.choose (isJ_ex again i q)) a m + 1))
theorem sv_eq (w : Ln) : iv (w &&& 1) = 0 ∨ iv (w &&& 1) = 1 := by
  have h : (w &&& 1).toNat = w.toNat % 2 := by
    rw [BitVec.toNat_and]
    exact Nat.and_one_is_mod _
  unfold iv
  omega
/-- A zero, again and again. -/
theorem zeros1 {X : Int} (x0 : 0 ≤ X) (x1 : X < 256) {L : List Int} (hB : ∀ y ∈ L, 0 ≤ y ∧ y < 256) (hl : L.length ≤ 102) :
    ∀ i, ∃ j, i ≤ j ∧ bt 136 (padS 136 X (takeL 136 (zL 25, 0) L)) j = 0 := by
  intro i
  obtain ⟨t, ht, hz⟩ := bt_zeros (R := 136) x0 x1 hB (by omega) i
  exact ⟨136 * t + 110, by omega, hz 110 (by omega) (by omega)⟩

/-- How many are not 0. -/
def cnt (L : List Int) : Nat → Nat
  | 0 => 0
  | k + 1 => if ni L k = 0 then cnt L k else cnt L k + 1
theorem cnt_le (L : List Int) : ∀ k, cnt L k ≤ k
  | 0 => Nat.le_refl _
  | k + 1 => by have := cnt_le L k; unfold cnt; split <;> omega
end Zab

namespace Zab
open Go
open Go.IntWalk (i64_in)
set_option linter.unusedVariables false


/-! ### A ball's signs -/

theorem sgn_nat {f : Nat → Int} (hf : ∀ k, 0 ≤ f k ∧ f k < 256) : ∀ m, m ≤ 8 → (sgn f m).toNat = val ((List.range m).map f)
  | 0, _ => rfl
  | m + 1, h => by
    have ih := sgn_nat hf m (by omega)
    have hl := val_lt (L := (List.range m).map f) (by
      intro y hy
      obtain ⟨k, _, rfl⟩ := List.mem_map.1 hy
      exact hf k)
    rw [List.length_map, List.length_range] at hl
    rw [List.range_succ, List.map_append, val_app, List.length_map, List.length_range]
    rw [show val (List.map f [m]) = (f m).toNat by simp [val]]
    have hs : sgn f (m + 1) = sgn f m ||| (BitVec.ofInt 64 (f m) <<< (8 * m)) := rfl
    obtain ⟨a, b⟩ := hf m
    have ey : f m = ((f m).toNat : Int) := by omega
    have hy : (f m).toNat < 256 := by omega
    have hb : (BitVec.ofInt 64 (f m)).toNat = (f m).toNat := by
      have := ofInt_nat (w := 64) (a := (f m).toNat) (by omega)
      rwa [← ey] at this
    have hp := pow_le (show 8 * m ≤ 56 by omega)
    have hpos : 0 < 2 ^ (8 * m) := Nat.pow_pos (by omega)
    have hlt : (f m).toNat * 2 ^ (8 * m) < 2 ^ 64 := by
      have : (f m).toNat * 2 ^ (8 * m) ≤ 255 * 2 ^ (8 * m) := Nat.mul_le_mul_right _ (by omega)
      omega
    rw [hs, BitVec.toNat_or, BitVec.toNat_shiftLeft, hb, ih, Nat.shiftLeft_eq, Nat.mod_eq_of_lt hlt, or_add hl, Nat.mul_comm]
theorem sv_bit {f : Nat → Int} (hf : ∀ k, 0 ≤ f k ∧ f k < 256) (m : Nat) : sv (sgn f 8 >>> m) = 1 - 2 * ((val ((List.range 8).map f) / 2 ^ m % 2 : Nat) : Int) := by
  have h : ((sgn f 8 >>> m) &&& 1).toNat = val ((List.range 8).map f) / 2 ^ m % 2 := by
    rw [BitVec.toNat_and, BitVec.toNat_ushiftRight, Nat.shiftRight_eq_div_pow, sgn_nat hf 8 (Nat.le_refl _)]
    exact Nat.and_one_is_mod _
  unfold sv iv
  rw [h]

/-! ### Small numbers out of half bytes -/

def hlf (e v : Int) : Option Int := if e = 2 then (if v < 15 then some (2 - v % 5) else none) else if v < 9 then some (4 - v) else none
def sml1 (e : Int) (O : List Int) (v : Int) : List Int := if O.length = 256 then O else match hlf e v with
  | some y => O ++ [y]
  | none => O
def sml (e : Int) (f : Nat → Int) : Nat → List Int
  | 0 => []
  | i + 1 => sml1 e (sml1 e (sml e f i) (f i % 16)) (f i / 16)
theorem sml1_len (e : Int) (O : List Int) (v : Int) : O.length ≤ (sml1 e O v).length ∧ (O.length ≤ 256 → (sml1 e O v).length ≤ 256) := by
  unfold sml1
  split
  · exact ⟨Nat.le_refl _, id⟩
  · split
    · simp; omega
    · exact ⟨Nat.le_refl _, id⟩
theorem sml_le (e : Int) (f : Nat → Int) : ∀ i, (sml e f i).length ≤ 256
  | 0 => by simp [sml]
  | i + 1 => (sml1_len e _ _).2 ((sml1_len e _ _).2 (sml_le e f i))
theorem sml1_zero {e : Int} {O : List Int} (h : O.length < 256) : O.length < (sml1 e O 0).length := by
  unfold sml1 hlf
  rw [if_neg (by omega)]
  by_cases h2 : e = 2
  · simp [h2]
  · simp [h2]
theorem sml_end {e : Int} {f : Nat → Int} (again : ∀ i, ∃ j, i ≤ j ∧ f j = 0) : ∃ N, (sml e f N).length = 256 ∧ ∀ i, i < N → (sml e f i).length < 256 := by
  have mono : ∀ i, (sml e f i).length ≤ (sml e f (i + 1)).length := fun i => Nat.le_trans (sml1_len e _ (f i % 16)).1 (sml1_len e _ (f i / 16)).1
  have far : ∀ n, n ≤ 256 → ∃ i, n ≤ (sml e f i).length := by
    intro n
    induction n with
    | zero => exact fun _ => ⟨0, Nat.zero_le _⟩
    | succ n ih =>
      intro hn
      obtain ⟨i, hi⟩ := ih (by omega)
      obtain ⟨j, hj, hz⟩ := again i
      have hm : ∀ d, (sml e f i).length ≤ (sml e f (i + d)).length := by
        intro d
        induction d with
        | zero => exact Nat.le_refl _
        | succ d ih => exact Nat.le_trans ih (mono (i + d))
      have h1 := hm (j - i)
      rw [show i + (j - i) = j by omega] at h1
      refine ⟨j + 1, ?_⟩
      by_cases h2 : (sml e f j).length < 256
      · have h3 : (sml e f j).length < (sml1 e (sml e f j) (f j % 16)).length := by rw [hz]; exact sml1_zero h2
        have h4 := (sml1_len e (sml1 e (sml e f j) (f j % 16)) (f j / 16)).1
        show _ ≤ (sml1 e (sml1 e (sml e f j) (f j % 16)) (f j / 16)).length
        omega
      · have := mono j
        omega
  obtain ⟨i, hi⟩ := far 256 (Nat.le_refl _)
  obtain ⟨N, _, h1, h2⟩ := least (P := fun i => 256 ≤ (sml e f i).length) i hi
  exact ⟨N, by have := sml_le e f N; omega, fun k hk => Nat.lt_of_not_le (h2 k hk)⟩

/-! ### Sums of bits -/

def bitZ (V a : Nat) : Int := ((V / 2 ^ a % 2 : Nat) : Int)
theorem bitZ_in (V a : Nat) : 0 ≤ bitZ V a ∧ bitZ V a ≤ 1 := by
  have : V / 2 ^ a % 2 < 2 := Nat.mod_lt _ (by omega)
  unfold bitZ; omega
def cenS (V e i : Nat) : Nat → Int
  | 0 => 0
  | k + 1 => cenS V e i k + (bitZ V (2 * i * e + k) - bitZ V (2 * i * e + e + k))
theorem cenS_in (V e i : Nat) : ∀ k : Nat, -(k : Int) ≤ cenS V e i k ∧ cenS V e i k ≤ k
  | 0 => by simp [cenS]
  | k + 1 => by
    have ih := cenS_in V e i k
    have h1 := bitZ_in V (2 * i * e + k)
    have h2 := bitZ_in V (2 * i * e + e + k)
    have : cenS V e i (k + 1) = cenS V e i k + (bitZ V (2 * i * e + k) - bitZ V (2 * i * e + e + k)) := rfl
    omega
def cen (V e i : Nat) : Int := cenS V e i e % 3329
theorem cen_in (V e i : Nat) (he : e ≤ 1000) : 0 ≤ cen V e i ∧ (cen V e i ≤ e ∨ 3329 - (e : Int) ≤ cen V e i) := by
  have := cenS_in V e i e
  unfold cen
  omega
end Zab

namespace Zab
open Go
set_option linter.unusedVariables false

theorem uni_bound {f : Nat → Int} (hf : ∀ k, 0 ≤ f k ∧ f k < 256) : ∀ i, ∀ y ∈ uni f i, 0 ≤ y ∧ y < 3329
  | 0, y, h => by simp [uni] at h
  | i + 1, y, h => by
    have ih := uni_bound hf i
    obtain ⟨a0, a1⟩ := hf (3 * i)
    obtain ⟨b0, b1⟩ := hf (3 * i + 1)
    obtain ⟨c0, c1⟩ := hf (3 * i + 2)
    have h : y ∈ uni2 (uni1 (uni f i) (uX f i)) (uY f i) := h
    have hX : uX f i = f (3 * i) + 256 * (f (3 * i + 1) % 16) := rfl
    have hY : uY f i = f (3 * i + 1) / 16 + 16 * f (3 * i + 2) := rfl
    have h1 : ∀ y ∈ uni1 (uni f i) (uX f i), 0 ≤ y ∧ y < 3329 := by
      intro y hy
      unfold uni1 at hy
      split at hy
      · rcases List.mem_append.1 hy with hy | hy
        · exact ih y hy
        · have := List.mem_singleton.1 hy; omega
      · exact ih y hy
    unfold uni2 at h
    split at h
    · rcases List.mem_append.1 h with hy | hy
      · exact h1 y hy
      · have := List.mem_singleton.1 hy; omega
    · exact h1 y h
theorem prm_bound {f : Nat → Int} (hf : ∀ k, 0 ≤ f k ∧ f k < 256) : ∀ i, ∀ y ∈ prm f i, 0 ≤ y ∧ y < 8380417
  | 0, y, h => by simp [prm] at h
  | i + 1, y, h => by
    have ih := prm_bound hf i
    obtain ⟨a0, a1⟩ := hf (3 * i)
    obtain ⟨b0, b1⟩ := hf (3 * i + 1)
    obtain ⟨c0, c1⟩ := hf (3 * i + 2)
    have h : y ∈ prm1 (prm f i) (pX f i) := h
    have hX : pX f i = f (3 * i) + 256 * f (3 * i + 1) + 65536 * (f (3 * i + 2) % 128) := rfl
    unfold prm1 at h
    split at h
    · rcases List.mem_append.1 h with hy | hy
      · exact ih y hy
      · have := List.mem_singleton.1 hy; omega
    · exact ih y h
theorem sml1_bound {e : Int} (he : e = 2 ∨ e = 4) {O : List Int} {v : Int} (v0 : 0 ≤ v) (hO : ∀ y ∈ O, -e ≤ y ∧ y ≤ e) : ∀ y ∈ sml1 e O v, -e ≤ y ∧ y ≤ e := by
  intro y hy
  unfold sml1 at hy
  split at hy
  · exact hO y hy
  · split at hy
    · rename_i z hz
      rcases List.mem_append.1 hy with hy | hy
      · exact hO y hy
      · have hy := List.mem_singleton.1 hy
        subst hy
        unfold hlf at hz
        rcases he with rfl | rfl
        · rw [if_pos rfl] at hz
          split at hz
          · cases hz; omega
          · cases hz
        · rw [if_neg (by decide)] at hz
          split at hz
          · cases hz; omega
          · cases hz
    · exact hO y hy
theorem sml_bound {e : Int} (he : e = 2 ∨ e = 4) {f : Nat → Int} (hf : ∀ k, 0 ≤ f k ∧ f k < 256) : ∀ i, ∀ y ∈ sml e f i, -e ≤ y ∧ y ≤ e
  | 0, y, h => by simp [sml] at h
  | i + 1, y, h => by
    obtain ⟨a0, a1⟩ := hf i
    exact sml1_bound he (by omega) (sml1_bound he (by omega) (sml_bound he hf i)) y h
theorem sgnL_bound {g : Int} {d : Nat} (hg : ((2 ^ d : Nat) : Int) = 2 * g) (V n : Nat) : ∀ y ∈ sgnL g d V n, -g < y ∧ y ≤ g := by
  intro y hy
  obtain ⟨k, _, rfl⟩ := List.mem_map.1 hy
  have := opn_lt d V k
  omega
theorem ni_in {P : Int → Prop} {L : List Int} (h : ∀ y ∈ L, P y) {j : Nat} (hj : j < L.length) : P (ni L j) := by
  unfold ni; rw [List.getD_eq_getElem?_getD, List.getElem?_eq_getElem hj]; exact h _ (List.getElem_mem hj)

/-! ### A ball -/

def nz (y : Int) : Nat := if y = 0 then 0 else 1
theorem cnt_nz (L : List Int) (k : Nat) : cnt L (k + 1) = cnt L k + nz (ni L k) := by
  rw [cnt, nz]; split <;> rfl
theorem ni_set (L : List Int) {i : Nat} (hi : i < L.length) (v : Int) (k : Nat) : ni (L.set i v) k = if i = k then v else ni L k := by
  unfold ni
  rw [List.getD_eq_getElem?_getD, List.getD_eq_getElem?_getD, List.getElem?_set]
  by_cases h : i = k
  · subst h; simp [hi]
  · simp [h]
theorem cnt_set (L : List Int) {i : Nat} (hi : i < L.length) (v : Int) : ∀ n, cnt (L.set i v) n + (if i < n then nz (ni L i) else 0) = cnt L n + (if i < n then nz v else 0)
  | 0 => by simp [cnt]
  | n + 1 => by
    have ih := cnt_set L hi v n
    rw [cnt_nz, cnt_nz, ni_set L hi v n]
    by_cases h : i = n
    · subst h
      rw [if_neg (by omega), if_neg (by omega)] at ih
      rw [if_pos rfl, if_pos (by omega), if_pos (by omega)]
      omega
    · rw [if_neg h]
      by_cases h2 : i < n
      · rw [if_pos h2, if_pos h2] at ih
        rw [if_pos (by omega), if_pos (by omega)]
        omega
      · rw [if_neg h2, if_neg h2] at ih
        rw [if_neg (by omega), if_neg (by omega)]
        omega
theorem sv_one (w : Ln) : sv w = 1 ∨ sv w = -1 := by
  rcases sv_eq w with h | h <;> unfold sv <;> rw [h] <;> omega
/-- What has been set so far. -/
theorem bo_ok {f : Nat → Int} (hf : ∀ k, 0 ≤ f k ∧ f k < 256) (w : Ln) {tau : Nat} (ht : tau ≤ 256) {p : Nat → Nat} : ∀ m, m ≤ tau → (∀ k, k < m → f (p k) ≤ ((256 - tau + k : Nat) : Int)) →
    (∀ y ∈ bo f w tau p m, y = 0 ∨ y = 1 ∨ y = -1) ∧ (∀ k, 256 - tau + m ≤ k → ni (bo f w tau p m) k = 0) ∧ cnt (bo f w tau p m) 256 = m
  | 0, _, _ => by
    refine ⟨fun y hy => .inl ?_, fun k hk => ?_, ?_⟩
    · exact List.eq_of_mem_replicate hy
    · show ni (List.replicate 256 0) k = 0
      unfold ni
      rw [List.getD_eq_getElem?_getD, List.getElem?_replicate]
      split <;> rfl
    · show cnt (List.replicate 256 0) 256 = 0
      decide +kernel
  | m + 1, h, hp => by
    obtain ⟨h1, h2, h3⟩ := bo_ok hf w ht m (by omega) (fun k hk => hp k (by omega))
    have hj := hp m (by omega)
    obtain ⟨j0, j1⟩ := hf (p m)
    have hl := bo_len f w tau p m
    have e : bo f w tau p (m + 1) = ((bo f w tau p m).set (256 - tau + m) (ni (bo f w tau p m) (f (p m)).toNat)).set (f (p m)).toNat (sv (w >>> m)) := rfl
    rw [e]
    have hs := sv_one (w >>> m)
    have hz := h2 (256 - tau + m) (Nat.le_refl _)
    have hiL : 256 - tau + m < 256 := by omega
    have hjl : (f (p m)).toNat ≤ 256 - tau + m := by omega
    generalize (f (p m)).toNat = j at *
    generalize hi : 256 - tau + m = i at *
    generalize bo f w tau p m = O at *
    generalize sv (w >>> m) = s at *
    have hOj : ni O j = 0 ∨ ni O j = 1 ∨ ni O j = -1 := ni_in h1 (by omega)
    have l1 : (O.set i (ni O j)).length = 256 := by rw [List.length_set]; exact hl
    refine ⟨fun y hy => ?_, fun k hk => ?_, ?_⟩
    · rcases List.mem_or_eq_of_mem_set hy with hy | rfl
      · rcases List.mem_or_eq_of_mem_set hy with hy | rfl
        · exact h1 y hy
        · exact hOj
      · rcases hs with rfl | rfl
        · exact .inr (.inl rfl)
        · exact .inr (.inr rfl)
    · rw [ni_set _ (by omega), if_neg (by omega), ni_set _ (by omega), if_neg (by omega)]
      exact h2 k (by omega)
    · have c1 := cnt_set O (i := i) (by omega) (ni O j) 256
      have c2 := cnt_set (O.set i (ni O j)) (i := j) (by omega) s 256
      rw [if_pos (by omega), if_pos (by omega), hz] at c1
      rw [if_pos (by omega), if_pos (by omega), ni_set O (by omega)] at c2
      have n0 : nz 0 = 0 := rfl
      have ns : nz s = 1 := by rcases hs with rfl | rfl <;> rfl
      have hq : (if i = j then ni O j else ni O j) = ni O j := by split <;> rfl
      rw [hq] at c2
      omega
end Zab

namespace Zab
open Go
set_option linter.unusedVariables false

def l2 : AC → AC
  | .seq a _ => a
  | _ => .skip
def r2 : AC → AC
  | .seq _ b => b
  | _ => .skip
def pin : AC → AC
  | .pre _ _ _ a => a
  | _ => .skip
def isT : AV → Bool
  | .b true => true
  | _ => false
theorem isT_eq {v : AV} (h : isT v = true) : v = .b true := by
  unfold isT at h
  split at h
  · rfl
  · cases h
/-- Did it end, its result true? -/
def endT (t : Nat) : Option (Ex × St) → Bool
  | some (.ret, S) => isT (get S.s t)
  | _ => false
theorem W_true {tab : Nat → Option AFun} {m n np t : Nat} {a : AC} {S : St} {xs : List AV} (h : endT t (evC (evF tab m) n a S) = true) (hl : ∀ l, lentOf l 0 xs = some ([], [])) : W (FF tab) a S (Ends np [.t t] xs ⟨.b true, []⟩) := by
  unfold endT at h
  split at h
  · rename_i S1 h1
    refine ⟨n, .ret, S1, evC_mono (evF_FF m) (Nat.le_refl n) h1, ?_⟩
    have ht := isT_eq h
    rw [Ends_ret]
    simp only [finR, resL, resV, ht, hl]
    rfl
  · cases h
end Zab

namespace Zab
open Go
set_option linter.unusedVariables false

def evM (memo : CallF) (tab : Nat → Option AFun) : Nat → CallF
  | 0, f, args => memo f args
  | n + 1, f, args =>
    match memo f args with
    | some r => some r
    | none =>
      match tab f with
      | some A =>
        bif Nat.beq args.length A.np then
          (match evC (evM memo tab n) n A.body ⟨enterS 0 args, enterL 0 args⟩ with
           | some (.normal, S) | some (.ret, S) => fin A args S
           | _ => none) else none
      | none => none
theorem evM_FF {memo : CallF} {tab : Nat → Option AFun} (h : CallLe memo (FF tab)) : ∀ n, CallLe (evM memo tab n) (FF tab)
  | 0 => h
  | n + 1 => fun f xs r hr => by
    unfold evM at hr
    split at hr
    · rename_i r' hm
      cases hr
      exact h _ _ _ hm
    · split at hr
      · rename_i A hA
        cases hb : Nat.beq xs.length A.np <;> rw [hb] at hr
        · cases hr
        · simp only [cond_true] at hr
          have ih := evM_FF h n
          split at hr
          · rename_i S1 he
            exact call_by hA (Nat.eq_of_beq_eq_true hb) ⟨n, .normal, S1, evC_mono ih (Nat.le_refl n) he, by rw [Ends_normal]; exact hr⟩
          · rename_i S1 he
            exact call_by hA (Nat.eq_of_beq_eq_true hb) ⟨n, .ret, S1, evC_mono ih (Nat.le_refl n) he, by rw [Ends_ret]; exact hr⟩
          · cases hr
      · cases hr
theorem FF_memo {memo : CallF} {tab : Nat → Option AFun} (h : CallLe memo (FF tab)) {n f : Nat} {xs : List AV} {r : Ret} (hr : evM memo tab n f xs = some r) : FF tab f xs = some r := evM_FF h n _ _ _ hr
theorem W_trueM {memo : CallF} {tab : Nat → Option AFun} (hm : CallLe memo (FF tab)) {m n np t : Nat} {a : AC} {S : St} {xs : List AV} (h : endT t (evC (evM memo tab m) n a S) = true) (hl : ∀ l, lentOf l 0 xs = some ([], [])) : W (FF tab) a S (Ends np [.t t] xs ⟨.b true, []⟩) := by
  unfold endT at h
  split at h
  · rename_i S1 h1
    refine ⟨n, .ret, S1, evC_mono (evM_FF hm m) (Nat.le_refl n) h1, ?_⟩
    have ht := isT_eq h
    rw [Ends_ret]
    simp only [finR, resL, resV, ht, hl]
    rfl
  · cases h
end Zab

namespace Zab
open Go
set_option linter.unusedVariables false

mutual
def eqA : AV → AV → Bool
  | .i k n, .i k' n' => decide (k = k') && decide (n = n')
  | .b x, .b y => x == y
  | .z, .z => true
  | .nl, .nl => true
  | .sl l n, .sl l' n' => eqL l l' && Nat.beq n n'
  | .ag l, .ag l' => eqL l l'
  | _, _ => false
def eqL : List AV → List AV → Bool
  | [], [] => true
  | x :: r, y :: r' => eqA x y && eqL r r'
  | _, _ => false
end
mutual
theorem eqA_eq : ∀ {x y : AV}, eqA x y = true → x = y
  | .i k n, y, h => by
    cases y <;> simp only [eqA, Bool.and_eq_true, decide_eq_true_eq, Bool.false_eq_true] at h
    obtain ⟨rfl, rfl⟩ := h; rfl
  | .b x, y, h => by
    cases y <;> simp only [eqA, beq_iff_eq, Bool.false_eq_true] at h
    subst h; rfl
  | .z, y, h => by cases y <;> simp only [eqA, Bool.false_eq_true] at h; rfl
  | .nl, y, h => by cases y <;> simp only [eqA, Bool.false_eq_true] at h; rfl
  | .sl l n, y, h => by
    cases y <;> simp only [eqA, Bool.and_eq_true, Nat.beq_eq, Bool.false_eq_true] at h
    obtain ⟨h1, rfl⟩ := h
    rw [eqL_eq h1]
  | .ag l, y, h => by
    cases y <;> simp only [eqA, Bool.false_eq_true] at h
    rw [eqL_eq h]
  | .s x, y, h => by cases y <;> simp [eqA] at h
  | .np, y, h => by cases y <;> simp [eqA] at h
  | .nf, y, h => by cases y <;> simp [eqA] at h
  | .un, y, h => by cases y <;> simp [eqA] at h
  | .gone, y, h => by cases y <;> simp [eqA] at h
  | .er g, y, h => by cases y <;> simp [eqA] at h
  | .ie t l, y, h => by cases y <;> simp [eqA] at h
  | .os l n m, y, h => by cases y <;> simp [eqA] at h
  | .op l, y, h => by cases y <;> simp [eqA] at h
  | .oq l, y, h => by cases y <;> simp [eqA] at h
  | .aq l, y, h => by cases y <;> simp [eqA] at h
  | .tp l, y, h => by cases y <;> simp [eqA] at h
  | .rf d o, y, h => by cases y <;> simp [eqA] at h
  | .rs d o n m, y, h => by cases y <;> simp [eqA] at h
  | .el l j, y, h => by cases y <;> simp [eqA] at h
  | .gl g, y, h => by cases y <;> simp [eqA] at h
  | .fn f l, y, h => by cases y <;> simp [eqA] at h
theorem eqL_eq : ∀ {l m : List AV}, eqL l m = true → l = m
  | [], m, h => by cases m <;> simp only [eqL, Bool.false_eq_true] at h; rfl
  | x :: r, m, h => by
    cases m with
    | nil => simp [eqL] at h
    | cons y r' =>
      simp only [eqL, Bool.and_eq_true] at h
      rw [eqA_eq h.1, eqL_eq h.2]
end
end Zab

namespace Zab
open Go
set_option linter.unusedVariables false

/-! ### Numbers of d bits as one number -/

def num (d : Nat) : List Int → Nat
  | [] => 0
  | y :: L => y.toNat + 2 ^ d * num d L
def InB (d : Nat) (y : Int) : Prop := 0 ≤ y ∧ y < ((2 ^ d : Nat) : Int)
instance (d : Nat) (y : Int) : Decidable (InB d y) := by unfold InB; infer_instance
theorem num_lt {d : Nat} : ∀ {L : List Int}, (∀ y ∈ L, InB d y) → num d L < 2 ^ (d * L.length)
  | [], _ => by simp [num]
  | y :: L, h => by
    have h1 := num_lt (L := L) (fun z hz => h z (List.mem_cons_of_mem _ hz))
    obtain ⟨h2, h3⟩ := h y List.mem_cons_self
    have e : 2 ^ (d * (y :: L).length) = 2 ^ d * 2 ^ (d * L.length) := by
      rw [List.length_cons, Nat.mul_succ, Nat.pow_add, Nat.mul_comm]
    have h4 : y.toNat < 2 ^ d := by omega
    rw [e, num]
    have h5 : 2 ^ d * num d L + 2 ^ d ≤ 2 ^ d * 2 ^ (d * L.length) := by
      rw [← Nat.mul_succ]; exact Nat.mul_le_mul_left _ h1
    omega
theorem num_app (d : Nat) : ∀ (L M : List Int), num d (L ++ M) = num d L + 2 ^ (d * L.length) * num d M
  | [], M => by simp [num]
  | y :: L, M => by
    rw [List.cons_append, num, num, num_app d L M, List.length_cons, Nat.mul_succ, Nat.pow_add, Nat.mul_add, Nat.mul_comm (2 ^ (d * L.length)) (2 ^ d), Nat.mul_assoc]
    omega
theorem num_cut {d : Nat} {L : List Int} (h : ∀ y ∈ L, InB d y) {i : Nat} (hi : i ≤ L.length) : num d (L.take i) = num d L % 2 ^ (d * i) := by
  have e : num d L = num d (L.take i) + 2 ^ (d * i) * num d (L.drop i) := by
    have := num_app d (L.take i) (L.drop i)
    rwa [List.take_append_drop, List.length_take, Nat.min_eq_left hi] at this
  have hl := num_lt (L := L.take i) (fun y hy => h y (List.mem_of_mem_take hy))
  rw [List.length_take, Nat.min_eq_left hi] at hl
  rw [e, Nat.add_mul_mod_self_left, Nat.mod_eq_of_lt hl]
theorem num_at {d : Nat} {L : List Int} (h : ∀ y ∈ L, InB d y) {i : Nat} (hi : i < L.length) : (ni L i).toNat = num d L / 2 ^ (d * i) % 2 ^ d := by
  have e : num d L = num d (L.take i) + 2 ^ (d * i) * num d (L.drop i) := by
    have := num_app d (L.take i) (L.drop i)
    rwa [List.take_append_drop, List.length_take, Nat.min_eq_left (by omega)] at this
  have hl := num_lt (L := L.take i) (fun y hy => h y (List.mem_of_mem_take hy))
  rw [List.length_take, Nat.min_eq_left (by omega)] at hl
  have e2 : L.drop i = ni L i :: L.drop (i + 1) := by
    rw [List.drop_eq_getElem_cons hi]; simp [ni, hi]
  have hb : InB d (ni L i) := by
    have : ni L i = L[i] := by simp [ni, hi]
    rw [this]; exact h _ (List.getElem_mem hi)
  obtain ⟨b0, b1⟩ := hb
  rw [e, Nat.add_mul_div_left _ _ (Nat.pow_pos (by omega)), Nat.div_eq_of_lt hl, Nat.zero_add, e2, num, Nat.add_mul_mod_self_left, Nat.mod_eq_of_lt (by omega)]

/-! ### What is left -/

def rs2 (e W t c : Nat) : Nat := W % 2 ^ t / 2 ^ (e * c)
theorem rs2_lt {e W t c : Nat} (h : e * c ≤ t) : rs2 e W t c < 2 ^ (t - e * c) := by
  unfold rs2
  rw [Nat.div_lt_iff_lt_mul (Nat.pow_pos (by omega)), ← Nat.pow_add, Nat.sub_add_cancel h]
  exact Nat.mod_lt _ (Nat.pow_pos (by omega))
theorem rs2_add {e W t c k : Nat} (h : e * c ≤ t) : rs2 e W (t + k) c = rs2 e W t c + W / 2 ^ t % 2 ^ k * 2 ^ (t - e * c) := by
  unfold rs2
  rw [Nat.pow_add, Nat.mod_mul]
  have hp : 2 ^ t = 2 ^ (e * c) * 2 ^ (t - e * c) := by rw [← Nat.pow_add, Nat.add_sub_cancel' h]
  have hq : W % 2 ^ t + 2 ^ t * (W / 2 ^ t % 2 ^ k) = W % 2 ^ t + 2 ^ (e * c) * (2 ^ (t - e * c) * (W / 2 ^ t % 2 ^ k)) := by
    rw [← Nat.mul_assoc, ← hp]
  rw [hq, Nat.add_mul_div_left _ _ (Nat.pow_pos (by omega)), Nat.mul_comm (2 ^ (t - e * c))]
theorem rs2_out {e W t c : Nat} (h : e * (c + 1) ≤ t) : rs2 e W t c % 2 ^ e = W / 2 ^ (e * c) % 2 ^ e := by
  unfold rs2
  rw [Nat.mul_add, Nat.mul_one] at h
  have hp : 2 ^ t = 2 ^ (e * c) * 2 ^ (t - e * c) := by rw [← Nat.pow_add, Nat.add_sub_cancel' (by omega)]
  rw [hp, Nat.mod_mul_right_div_self]
  exact Nat.mod_mod_of_dvd _ (Nat.pow_dvd_pow 2 (by omega))
theorem rs2_next (e W t c : Nat) : rs2 e W t c / 2 ^ e = rs2 e W t (c + 1) := by
  unfold rs2
  rw [Nat.div_div_eq_div_mul, ← Nat.pow_add, Nat.mul_add, Nat.mul_one]

/-! ### Bytes of a number -/

def byt (W j : Nat) : Nat := W / 2 ^ (8 * j) % 256
def bytL (W n : Nat) : List Int := (List.range n).map fun j => (byt W j : Int)
theorem bytL_len (W n : Nat) : (bytL W n).length = n := by simp [bytL]
theorem bytL_succ (W n : Nat) : bytL W (n + 1) = bytL W n ++ [(byt W n : Int)] := by simp [bytL, List.range_succ]
theorem bytL_ni (W : Nat) {n j : Nat} (h : j < n) : ni (bytL W n) j = (byt W j : Int) := by simp [ni, bytL, h]
theorem byt_lt (W j : Nat) : byt W j < 256 := Nat.mod_lt _ (by omega)
theorem bytL_in (W n : Nat) : ∀ y ∈ bytL W n, inK .u8 y := by
  intro y hy
  obtain ⟨k, _, rfl⟩ := List.mem_map.1 hy
  have := byt_lt W k
  exact ⟨by show (0 : Int) ≤ _; omega, by show _ ≤ (255 : Int); omega⟩
theorem bytL_zero (n : Nat) : bytL 0 n = List.replicate n 0 := by
  apply List.ext_getElem (by simp [bytL])
  intro j p q
  simp [bytL, byt]
/-- One bit more. -/
theorem byt_bit (W t : Nat) : byt (W % 2 ^ (t + 1)) (t / 8) = byt (W % 2 ^ t) (t / 8) + W / 2 ^ t % 2 * 2 ^ (t % 8) ∧ byt (W % 2 ^ t) (t / 8) < 2 ^ (t % 8) := by
  have h8 : 8 * (t / 8) + t % 8 = t := by omega
  have hlt : t % 8 < 8 := Nat.mod_lt _ (by omega)
  have hp : 2 ^ t = 2 ^ (8 * (t / 8)) * 2 ^ (t % 8) := by rw [← Nat.pow_add, h8]
  have h1 : W % 2 ^ t / 2 ^ (8 * (t / 8)) < 2 ^ (t % 8) := by
    rw [Nat.div_lt_iff_lt_mul (Nat.pow_pos (by omega)), Nat.mul_comm, ← hp]
    exact Nat.mod_lt _ (Nat.pow_pos (by omega))
  have hle : 2 ^ (t % 8) ≤ 2 ^ 7 := pow_le (by omega)
  have hb : W / 2 ^ t % 2 < 2 := Nat.mod_lt _ (by omega)
  have e : W % 2 ^ (t + 1) = W % 2 ^ t + 2 ^ (8 * (t / 8)) * (2 ^ (t % 8) * (W / 2 ^ t % 2)) := by
    rw [Nat.pow_succ, Nat.mod_mul, ← Nat.mul_assoc, ← hp]
  have h2 : byt (W % 2 ^ t) (t / 8) = W % 2 ^ t / 2 ^ (8 * (t / 8)) := Nat.mod_eq_of_lt (by omega)
  have hm : W / 2 ^ t % 2 * 2 ^ (t % 8) ≤ 1 * 2 ^ (t % 8) := Nat.mul_le_mul_right _ (by omega)
  refine ⟨?_, by rw [h2]; exact h1⟩
  rw [h2]
  unfold byt
  rw [e, Nat.add_mul_div_left _ _ (Nat.pow_pos (by omega)), Nat.mul_comm (2 ^ (t % 8))]
  exact Nat.mod_eq_of_lt (by omega)
theorem byt_far (W t j : Nat) (h : j ≠ t / 8) : byt (W % 2 ^ (t + 1)) j = byt (W % 2 ^ t) j := by
  unfold byt
  rcases Nat.lt_or_gt_of_ne h with h1 | h1
  · have key : ∀ s, 8 * j + 8 ≤ s → W % 2 ^ s / 2 ^ (8 * j) % 256 = W / 2 ^ (8 * j) % 256 := fun s hs => by
      have hp : 2 ^ s = 2 ^ (8 * j) * 2 ^ (s - 8 * j) := by rw [← Nat.pow_add, Nat.add_sub_cancel' (by omega)]
      rw [hp, Nat.mod_mul_right_div_self]
      exact Nat.mod_mod_of_dvd _ (by have := Nat.pow_dvd_pow 2 (show 8 ≤ s - 8 * j by omega); simpa using this)
    rw [key _ (by omega), key _ (by omega)]
  · have key : ∀ s, s ≤ 8 * j → W % 2 ^ s / 2 ^ (8 * j) = 0 := fun s hs => by
      have h2 : W % 2 ^ s < 2 ^ s := Nat.mod_lt _ (Nat.pow_pos (by omega))
      have h3 := pow_le hs
      exact Nat.div_eq_of_lt (by omega)
    rw [key _ (by omega), key _ (by omega)]
theorem bytL_set (W t n : Nat) (h : t / 8 < n) : (bytL (W % 2 ^ t) n).set (t / 8) ((byt (W % 2 ^ (t + 1)) (t / 8) : Nat) : Int) = bytL (W % 2 ^ (t + 1)) n := by
  unfold bytL
  apply List.ext_getElem (by simp)
  intro j p q
  simp only [List.getElem_set, List.getElem_map, List.getElem_range]
  by_cases e : t / 8 = j
  · subst e; simp
  · simp only [e, if_false]
    rw [byt_far W t j (fun h => e h.symm)]
theorem num_bit {d : Nat} {L : List Int} (h : ∀ y ∈ L, InB d y) {i k : Nat} (hi : i < L.length) (hk : k < d) : (ni L i).toNat / 2 ^ k % 2 = num d L / 2 ^ (d * i + k) % 2 := by
  rw [num_at h hi]
  have hp : 2 ^ d = 2 ^ k * 2 ^ (d - k) := by rw [← Nat.pow_add, Nat.add_sub_cancel' (by omega)]
  rw [hp, Nat.mod_mul_right_div_self, Nat.div_div_eq_div_mul, ← Nat.pow_add]
  exact Nat.mod_mod_of_dvd _ (by have := Nat.pow_dvd_pow 2 (show 1 ≤ d - k by omega); simpa using this)
/-- The first that does not fit. -/
theorem first_bad {p : Nat → Prop} [DecidablePred p] : ∀ n, (∀ j, j < n → p j) ∨ ∃ k, k < n ∧ ¬ p k ∧ ∀ j, j < k → p j
  | 0 => .inl fun j h => by omega
  | n + 1 => by
    rcases first_bad (p := p) n with h | ⟨k, h1, h2, h3⟩
    · by_cases hp : p n
      · exact .inl fun j hj => by
          by_cases e : j = n
          · subst e; exact hp
          · exact h j (by omega)
      · exact .inr ⟨n, by omega, hp, h⟩
    · exact .inr ⟨k, by omega, h2, h3⟩
end Zab

