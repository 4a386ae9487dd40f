/- The permutation of chapter 4 over lists of 64-bit words. No program in sight, but for the machine's numbers. -/
import Derived.Test.YtohilcdmockfbaaDoorZabVal
import Derived.Test.YtohilcdmockfbaaDoorZabFor
import Derived.Test.YtohilcdmockfbaaDoorZabData
import Derived.KernelRfl
namespace Zab
open Go
set_option linter.unusedVariables false
set_option linter.unusedSimpArgs false

abbrev Ln := BitVec 64

def iv (x : Ln) : Int := (x.toNat : Int)
theorem iv_inj {x y : Ln} : iv x = iv y ↔ x = y := by simp only [iv, Int.natCast_inj, BitVec.toNat_inj]
theorem iv_ok (x : Ln) : 0 ≤ iv x ∧ iv x < 18446744073709551616 := by have := x.isLt; unfold iv; omega

def nl (L : List Ln) (j : Nat) : Ln := L.getD j 0
theorem nl_get {L : List Ln} {j : Nat} (h : j < L.length) : nl L j = L[j] := by simp [nl, h]
def lanes (L : List Ln) : List AV := L.map fun x => .i .u64 (iv x)
theorem lanes_length (L : List Ln) : (lanes L).length = L.length := by simp [lanes]
theorem lanes_get {L : List Ln} {j : Nat} (h : j < L.length) : (lanes L)[j]? = some (.i .u64 (iv (nl L j))) := by simp [lanes, nl, h]
theorem lanes_set (L : List Ln) (j : Nat) (x : Ln) : (lanes L).set j (.i .u64 (iv x)) = lanes (L.set j x) := by simp [lanes, List.map_set]
theorem lanes_hasSl : ∀ (L : List Ln), hasSlL (lanes L) = false
  | [] => rfl
  | x :: L => by simp only [lanes, List.map_cons, hasSlL, hasSl1, Bool.false_or]; exact lanes_hasSl L

theorem lanes_of {n : Nat} {l : List AV} (h : ∃ xs : List (List AV), xs.length = n ∧ (∀ x ∈ xs, ∃ m, x = [.i .u64 m] ∧ inK .u64 m) ∧ l = xs.flatten) : ∃ L : List Ln, L.length = n ∧ l = lanes L := by
  obtain ⟨xs, h1, h2, rfl⟩ := h
  obtain ⟨L, h3, h4, h5⟩ := singles xs h2
  refine ⟨L.map fun m => BitVec.ofInt 64 m, by simp [h3, h1], ?_⟩
  rw [h4]
  unfold nums lanes
  rw [List.map_map]
  apply List.map_congr_left
  intro m hm
  obtain ⟨p, q⟩ := h5 m hm
  have p' : 0 ≤ m := p
  have q' : m ≤ 18446744073709551615 := q
  simp only [Function.comp, iv]
  congr 1
  rw [BitVec.toNat_ofInt]
  omega
theorem wrap_u64 (x : Ln) : IntKind.u64.wrap (iv x) = iv x := by
  unfold iv
  have := x.isLt
  unfold IntKind.wrap
  simp only [IntKind.signed, IntKind.bits]
  simp
  omega

theorem ofInt_u64 (x : Ln) : BitVec.ofInt 64 (iv x) = x := by simp [iv]
theorem bitV_xor (x y : Ln) : bitV .xor .u64 (iv x) (iv y) = some (.i .u64 (iv (x ^^^ y))) := by
  simp only [bitV, IntKind.bits, ofInt_u64]
  exact congrArg (fun z => some (AV.i .u64 z)) (wrap_u64 (x ^^^ y))
theorem bitV_or (x y : Ln) : bitV .or .u64 (iv x) (iv y) = some (.i .u64 (iv (x ||| y))) := by
  simp only [bitV, IntKind.bits, ofInt_u64]
  exact congrArg (fun z => some (AV.i .u64 z)) (wrap_u64 (x ||| y))
theorem bitV_and (x y : Ln) : bitV .and .u64 (iv x) (iv y) = some (.i .u64 (iv (x &&& y))) := by
  simp only [bitV, IntKind.bits, ofInt_u64]
  exact congrArg (fun z => some (AV.i .u64 z)) (wrap_u64 (x &&& y))
theorem unV_not (x : Ln) : unV .xor (.i .u64 (iv x)) = some (.i .u64 (iv (~~~x))) := by
  simp only [unV, bitV]
  rw [show (if IntKind.u64.signed = true then -1 else IntKind.u64.max) = iv (BitVec.allOnes 64) from by decide]
  simp only [IntKind.bits, ofInt_u64]
  have e : BitVec.allOnes 64 ^^^ x = ~~~x := BitVec.allOnes_xor
  exact congrArg (fun z => some (AV.i .u64 z)) ((wrap_u64 (BitVec.allOnes 64 ^^^ x)).trans (by rw [e]))
theorem bitV_not (x : Ln) : bitV .xor .u64 (if IntKind.u64.signed = true then -1 else IntKind.u64.max) (iv x) = some (.i .u64 (iv (~~~x))) := unV_not x
theorem shl_u64 (x : Ln) {n : Nat} (h : n ≤ 64) : shiftV .shl .u64 (iv x) (n : Int) = some (.i .u64 (iv (x <<< n))) := by
  unfold iv
  have h0 : ¬ (n : Int) < 0 := by omega
  have e : min n 64 = n := by omega
  simp only [shiftV, IntKind.bits, Int.toNat_natCast, e]
  simp only [h0, decide_false, cond_false]
  congr 2
  unfold IntKind.wrap
  simp only [IntKind.signed, IntKind.bits, BitVec.toNat_shiftLeft, Nat.shiftLeft_eq]
  simp
theorem shr_u64 (x : Ln) {n : Nat} (h : n ≤ 64) : shiftV .shr .u64 (iv x) (n : Int) = some (.i .u64 (iv (x >>> n))) := by
  unfold iv
  have h0 : ¬ (n : Int) < 0 := by omega
  have e : min n 64 = n := by omega
  simp only [shiftV, IntKind.bits, Int.toNat_natCast, e]
  simp only [h0, decide_false, cond_false]
  congr 2
  simp only [BitVec.toNat_ushiftRight, Nat.shiftRight_eq_div_pow]
  have : ((2 : Int) ^ n) = ((2 ^ n : Nat) : Int) := by norm_cast
  rw [this, Int.fdiv_eq_ediv_of_nonneg _ (Int.natCast_nonneg _)]
  rfl

/-- Turned up by so many bits. -/
def rot (x : Ln) (n : Nat) : Ln := (x <<< n) ||| (x >>> (64 - n))


theorem rot_bit (x : Ln) {n : Nat} (h : n < 64) {i : Nat} (hi : i < 64) : (rot x n).getLsbD i = x.getLsbD ((i + (64 - n)) % 64) := by
  unfold rot
  simp only [BitVec.getLsbD_or, BitVec.getLsbD_shiftLeft, BitVec.getLsbD_ushiftRight]
  by_cases h1 : i < n
  · have : (i + (64 - n)) % 64 = 64 - n + i := by omega
    simp [h1, hi, this]
  · have : (i + (64 - n)) % 64 = i - n := by omega
    have h2 : x.getLsbD (64 - n + i) = false := BitVec.getLsbD_of_ge _ _ (by omega)
    simp [h1, hi, this, h2]

theorem rot_inj {x y : Ln} {n : Nat} (h : n < 64) (e : rot x n = rot y n) : x = y := by
  apply BitVec.eq_of_getLsbD_eq
  intro i hi
  have h1 := rot_bit x h (i := (i + n) % 64) (by omega)
  have h2 := rot_bit y h (i := (i + n) % 64) (by omega)
  have e1 : ((i + n) % 64 + (64 - n)) % 64 = i := by omega
  rw [e1] at h1 h2
  rw [← h1, ← h2, e]

theorem rot_xor (x y : Ln) (n : Nat) : rot (x ^^^ y) n = rot x n ^^^ rot y n ∨ 64 ≤ n := by
  by_cases h : n < 64
  · left
    apply BitVec.eq_of_getLsbD_eq
    intro i hi
    rw [rot_bit _ h hi, BitVec.getLsbD_xor, BitVec.getLsbD_xor, rot_bit _ h hi, rot_bit _ h hi]
  · right; omega

/-! ### The steps, as they are computed -/

def ab : Nat → Int × Int
  | 0 => (1, 0)
  | t + 1 => ((ab t).2, (2 * (ab t).1 + 3 * (ab t).2) % 5)

def turnAt (t : Nat) : Int := (t + 1) * (t + 2) / 2 % 64

/-- The first of these from t on, so many are left. -/
def turnF (x y : Int) : Nat → Nat → Int
  | _, 0 => 0
  | t, n + 1 => if (ab t).1 = x ∧ (ab t).2 = y then turnAt t else turnF x y (t + 1) n
def turn (x y : Int) : Int := turnF x y 0 24

def zL (n : Nat) : List Ln := List.replicate n 0
theorem zL_len (n : Nat) : (zL n).length = n := by simp [zL]
def theC (L : List Ln) : Nat → List Ln
  | 0 => zL 5
  | k + 1 => (theC L k).set (k % 5) (nl (theC L k) (k % 5) ^^^ nl L k)
def theD (C : List Ln) (x : Nat) : Ln := nl C ((x + 4) % 5) ^^^ rot (nl C ((x + 1) % 5)) 1
def place (x y : Nat) : Nat := y + 5 * ((2 * x + 3 * y) % 5)
def tn (x y : Nat) : Nat := (turn x y).toNat
def theB (L C : List Ln) : Nat → List Ln
  | 0 => zL 25
  | k + 1 => (theB L C k).set (place (k % 5) (k / 5)) (rot (nl L k ^^^ theD C (k % 5)) (tn (k % 5) (k / 5)))
def chi (B : List Ln) (x y : Nat) : Ln := nl B (x + 5 * y) ^^^ (~~~ nl B ((x + 1) % 5 + 5 * y) &&& nl B ((x + 2) % 5 + 5 * y))
def theO (B : List Ln) : Nat → List Ln
  | 0 => zL 25
  | k + 1 => (theO B k).set k (chi B (k % 5) (k / 5))

theorem theC_len (L : List Ln) : ∀ k, (theC L k).length = 5
  | 0 => by simp [theC, zL_len]
  | k + 1 => by simp [theC, theC_len L k]
theorem theB_len (L C : List Ln) : ∀ k, (theB L C k).length = 25
  | 0 => by simp [theB, zL_len]
  | k + 1 => by simp [theB, theB_len L C k]
theorem theO_len (B : List Ln) : ∀ k, (theO B k).length = 25
  | 0 => by simp [theO, zL_len]
  | k + 1 => by simp [theO, theO_len B k]

/-- A round, but for its constant. -/
def base (L : List Ln) : List Ln := theO (theB L (theC L 25) 25) 25
def rnd (L : List Ln) (c : Ln) : List Ln := (base L).set 0 (nl (base L) 0 ^^^ c)
theorem base_len (L : List Ln) : (base L).length = 25 := theO_len _ _
theorem rnd_len (L : List Ln) (c : Ln) : (rnd L c).length = 25 := by simp [rnd, base_len]

theorem z25 : ([.i .u64 0, .i .u64 0, .i .u64 0, .i .u64 0, .i .u64 0, .i .u64 0, .i .u64 0, .i .u64 0, .i .u64 0, .i .u64 0, .i .u64 0, .i .u64 0, .i .u64 0, .i .u64 0, .i .u64 0, .i .u64 0, .i .u64 0, .i .u64 0, .i .u64 0, .i .u64 0, .i .u64 0, .i .u64 0, .i .u64 0, .i .u64 0, .i .u64 0] : List AV) = lanes (zL 25) := rfl
theorem z5 : ([.i .u64 0, .i .u64 0, .i .u64 0, .i .u64 0, .i .u64 0] : List AV) = lanes (zL 5) := rfl

/-! ### A round's constant -/

abbrev By := BitVec 8
def ib (x : By) : Int := (x.toNat : Int)
theorem ib_inj {x y : By} : ib x = ib y ↔ x = y := by simp only [ib, Int.natCast_inj, BitVec.toNat_inj]
theorem ib_ok (x : By) : 0 ≤ ib x ∧ ib x < 256 := by have := x.isLt; unfold ib; omega

theorem all_by {p : By → Prop} [∀ x, Decidable (p x)] (h : (List.range 256).all (fun n => decide (p (BitVec.ofNat 8 n))) = true) (x : By) : p x := by
  have h1 := List.all_eq_true.1 h x.toNat (List.mem_range.2 x.isLt)
  have h2 := of_decide_eq_true h1
  rwa [show BitVec.ofNat 8 x.toNat = x by simp] at h2

def low (x : By) : Bool := x.getLsbD 0
def top (x : By) : Bool := x.getLsbD 7
def nextB (x : By) : By := if top x then (x <<< 1) ^^^ 113#8 else x <<< 1
def row : Nat → By
  | 0 => 1
  | t + 1 => nextB (row t)
def outC (i : Nat) : Nat → Ln
  | 0 => 0
  | t + 1 => if 7 * i ≤ t ∧ low (row t) = true then outC i t ||| ((1#64) <<< (2 ^ (t - 7 * i) - 1)) else outC i t
/-- What a round's constant is; outside of the rounds, 0. -/
def con (i : Int) : Ln := if i < 0 ∨ 24 ≤ i then 0 else outC i.toNat (7 * (i.toNat + 1))

def bI (t : Bool) : Int := if t then 1 else 0
theorem u8_and1 : ∀ x : By, bitV .and .u8 (ib x) 1 = some (.i .u8 (bI (low x))) :=
  fun x => congrArg (fun z => some (AV.i .u8 z)) (all_by (p := fun x => (IntKind.u8.wrap (BitVec.ofInt IntKind.u8.bits (ib x) &&& BitVec.ofInt IntKind.u8.bits 1).toNat) = bI (low x)) (by decide +kernel) x)
theorem u8_xor : ∀ x : By, bitV .xor .u8 (ib x) 113 = some (.i .u8 (ib (x ^^^ 113#8))) :=
  fun x => congrArg (fun z => some (AV.i .u8 z)) (all_by (p := fun x => (IntKind.u8.wrap (BitVec.ofInt IntKind.u8.bits (ib x) ^^^ BitVec.ofInt IntKind.u8.bits 113).toNat) = ib (x ^^^ 113#8)) (by decide +kernel) x)
theorem u8_shl : ∀ x : By, shiftV .shl .u8 (ib x) 1 = some (.i .u8 (ib (x <<< 1))) :=
  fun x => congrArg (fun z => some (AV.i .u8 z)) (all_by (p := fun x => IntKind.u8.wrap (ib x * 2 ^ (min (1 : Int).toNat IntKind.u8.bits)) = ib (x <<< 1)) (by decide +kernel) x)
theorem u8_top : ∀ x : By, (128 ≤ ib x ↔ top x = true) := all_by (by decide +kernel)
theorem i64_and : ∀ x : By, bitV .and .i64 (2 * ib x) 255 = some (.i .i64 (ib (x <<< 1))) :=
  fun x => congrArg (fun z => some (AV.i .i64 z)) (all_by (p := fun x => (IntKind.i64.wrap (BitVec.ofInt IntKind.i64.bits (2 * ib x) &&& BitVec.ofInt IntKind.i64.bits 255).toNat) = ib (x <<< 1)) (by decide +kernel) x)
theorem i64_xor : ∀ x : By, bitV .xor .i64 (ib x) 113 = some (.i .i64 (ib (x ^^^ 113#8))) :=
  fun x => congrArg (fun z => some (AV.i .i64 z)) (all_by (p := fun x => (IntKind.i64.wrap (BitVec.ofInt IntKind.i64.bits (ib x) ^^^ BitVec.ofInt IntKind.i64.bits 113).toNat) = ib (x ^^^ 113#8)) (by decide +kernel) x)
theorem by_low : ∀ x : By, ib x % 2 = bI (low x) := all_by (by decide +kernel)
theorem by_shl : ∀ x : By, top x = false → 2 * ib x = ib (x <<< 1) := all_by (by decide +kernel)
theorem shl1 {j : Nat} (h : j ≤ 6) : shiftV .shl .u64 1 (j : Int) = some (.i .u64 ((2 ^ j : Nat) : Int)) ∧ IntKind.u64.wrap (((2 ^ j : Nat) : Int) - 1) = ((2 ^ j - 1 : Nat) : Int) ∧ 2 ^ j - 1 ≤ 64 := by
  have hj : j = 0 ∨ j = 1 ∨ j = 2 ∨ j = 3 ∨ j = 4 ∨ j = 5 ∨ j = 6 := by omega
  rcases hj with rfl | rfl | rfl | rfl | rfl | rfl | rfl <;> exact ⟨rfl, rfl, by decide⟩
theorem shl1' {n : Nat} (h : n ≤ 64) : shiftV .shl .u64 1 (n : Int) = some (.i .u64 (iv ((1#64) <<< n))) := shl_u64 1#64 h

theorem tmod5 (k : Nat) : (k : Int).tmod 5 = ((k % 5 : Nat) : Int) := rfl
theorem tdiv5 (k : Nat) : (k : Int).tdiv 5 = ((k / 5 : Nat) : Int) := rfl


/-! ### The other order -/

def refC (L : List Ln) : Nat → List Ln
  | 0 => zL 5
  | m + 1 => (refC L m).set (m / 5) (nl (refC L m) (m / 5) ^^^ nl L (m / 5 + 5 * (m % 5)))
def refB (L C : List Ln) : Nat → List Ln
  | 0 => zL 25
  | m + 1 => (refB L C m).set (place (m / 5) (m % 5)) (rot (nl L (m / 5 + 5 * (m % 5)) ^^^ theD C (m / 5)) (tn (m / 5) (m % 5)))
def refO (B : List Ln) : Nat → List Ln
  | 0 => zL 25
  | m + 1 => (refO B m).set (m / 5 + 5 * (m % 5)) (chi B (m / 5) (m % 5))
theorem refC_len (L : List Ln) : ∀ k, (refC L k).length = 5
  | 0 => by simp [refC, zL_len]
  | k + 1 => by simp [refC, refC_len L k]
theorem refB_len (L C : List Ln) : ∀ k, (refB L C k).length = 25
  | 0 => by simp [refB, zL_len]
  | k + 1 => by simp [refB, refB_len L C k]
theorem refO_len (B : List Ln) : ∀ k, (refO B k).length = 25
  | 0 => by simp [refO, zL_len]
  | k + 1 => by simp [refO, refO_len B k]
theorem refC_eq (L : List Ln) : refC L 25 = theC L 25 := by kernel_rfl
theorem refB_eq (L C : List Ln) : refB L C 25 = theB L C 25 := by kernel_rfl
theorem refO_eq (B : List Ln) : refO B 25 = theO B 25 := by kernel_rfl

/-- So many rounds. -/
def rnds (L : List Ln) : Nat → List Ln
  | 0 => L
  | k + 1 => rnd (rnds L k) (con k)
theorem rnds_len {L : List Ln} (h : L.length = 25) : ∀ k, (rnds L k).length = 25
  | 0 => h
  | k + 1 => rnd_len _ _
end Zab
