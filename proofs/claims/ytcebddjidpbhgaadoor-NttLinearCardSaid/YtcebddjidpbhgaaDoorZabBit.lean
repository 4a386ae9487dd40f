/- Bits of small numbers. No statement of the program stands here. -/
import Derived.Test.YtcebddjidpbhgaaDoorZabFor
namespace Zab
open Go
open Go.IntWalk (i64_in)
set_option linter.unusedVariables false

theorem toNat_ofInt64 {a : Nat} (h : a < 2 ^ 63) : (BitVec.ofInt 64 (a : Int)).toNat = a := by
  rw [BitVec.toNat_ofInt]
  have : ((a : Int) % ((2 ^ 64 : Nat) : Int)) = a := Int.emod_eq_of_lt (by omega) (by omega)
  rw [this]; simp
theorem wrap_nat {a : Nat} (h : a < 2 ^ 63) : IntKind.i64.wrap (a : Int) = a := i64_in _ (by omega)
/-- The lowest bit. -/
theorem and_one {a : Nat} (h : a < 2 ^ 63) : bitV .and .i64 (a : Int) 1 = some (.i .i64 ((a % 2 : Nat) : Int)) := by
  unfold bitV
  have e : (BitVec.ofInt IntKind.i64.bits (a : Int) &&& BitVec.ofInt IntKind.i64.bits 1).toNat = a % 2 := by
    rw [BitVec.toNat_and]
    show (BitVec.ofInt 64 (a : Int)).toNat &&& (BitVec.ofInt 64 ((1 : Nat) : Int)).toNat = _
    rw [toNat_ofInt64 h, toNat_ofInt64 (by decide), Nat.and_one_is_mod]
  simp only [e, wrap_nat (show a % 2 < 2 ^ 63 by omega)]
/-- A bit behind an even number. -/
theorem or_low {a b i : Nat} (h : a * 2 ^ i + b < 2 ^ 63) (hb : b < 2 ^ i) : bitV .or .i64 ((a * 2 ^ i : Nat) : Int) (b : Int) = some (.i .i64 ((a * 2 ^ i + b : Nat) : Int)) := by
  unfold bitV
  have e : (BitVec.ofInt IntKind.i64.bits ((a * 2 ^ i : Nat) : Int) ||| BitVec.ofInt IntKind.i64.bits (b : Int)).toNat = a * 2 ^ i + b := by
    rw [BitVec.toNat_or]
    show (BitVec.ofInt 64 ((a * 2 ^ i : Nat) : Int)).toNat ||| (BitVec.ofInt 64 (b : Int)).toNat = _
    rw [toNat_ofInt64 (by omega), toNat_ofInt64 (by omega), ← Nat.shiftLeft_eq, ← Nat.shiftLeft_add_eq_or_of_lt hb]
  simp only [e, wrap_nat h]
theorem pow_le {d e : Nat} (h : d ≤ e) : 2 ^ d ≤ 2 ^ e := Nat.pow_le_pow_right (by omega) h
/-- 1, so many steps up. -/
theorem shl_one {d : Nat} (h : d ≤ 62) : shiftV .shl .i64 1 (d : Int) = some (.i .i64 ((2 ^ d : Nat) : Int)) := by
  have h1 : min (d : Int).toNat IntKind.i64.bits = d := by
    rw [Int.toNat_natCast]; show min d 64 = d; omega
  have := pow_le h
  unfold shiftV
  rw [show decide ((d : Int) < 0) = false by simp]
  simp only [cond_false, h1]
  rw [Int.one_mul, show (2 : Int) ^ d = ((2 ^ d : Nat) : Int) by simp, wrap_nat (by omega)]
theorem shl_by {a d : Nat} (h : a * 2 ^ d < 2 ^ 63) (hd : d ≤ 62) : shiftV .shl .i64 (a : Int) (d : Int) = some (.i .i64 ((a * 2 ^ d : Nat) : Int)) := by
  have h1 : min (d : Int).toNat IntKind.i64.bits = d := by
    rw [Int.toNat_natCast]; show min d 64 = d; omega
  unfold shiftV
  rw [show decide ((d : Int) < 0) = false by simp]
  simp only [cond_false, h1]
  rw [show (a : Int) * 2 ^ d = ((a * 2 ^ d : Nat) : Int) by simp, wrap_nat h]
theorem shr_by {a d : Nat} (hd : d ≤ 62) : shiftV .shr .i64 (a : Int) (d : Int) = some (.i .i64 ((a / 2 ^ d : Nat) : Int)) := by
  have h1 : min (d : Int).toNat IntKind.i64.bits = d := by
    rw [Int.toNat_natCast]; show min d 64 = d; omega
  unfold shiftV
  rw [show decide ((d : Int) < 0) = false by simp]
  simp only [cond_false, h1]
  rw [show (2 : Int) ^ d = ((2 ^ d : Nat) : Int) by simp, Int.fdiv_eq_ediv_of_nonneg _ (Int.natCast_nonneg _)]
  rfl
theorem u64_small {a : Nat} (h : a < 2 ^ 63) : IntKind.u64.wrap (a : Int) = a := by
  have : IntKind.u64.wrap (a : Int) = (a : Int) % 18446744073709551616 := rfl
  rw [this]; omega
end Zab
