/- What the functions of the first chapter give back. -/
import Derived.Test.YthfbehemcpghaaaDoorZabSim
import Derived.Test.YthfbehemcpghaaaDoorAbs
namespace Zab.YthfbehemcpghaaaDoor
open Go
open Go.IntWalk (i64_in)
set_option maxRecDepth 100000
set_option linter.unusedSimpArgs false
set_option linter.unusedVariables false

/-- One of the seven. -/
def Right (p : Int) : Prop := p = 17 ∨ p = 97 ∨ p = 257 ∨ p = 3329 ∨ p = 7681 ∨ p = 12289 ∨ p = 8380417
theorem Right.lo {p : Int} (h : Right p) : 17 ≤ p := by unfold Right at h; omega
theorem Right.hi {p : Int} (h : Right p) : p ≤ 8380417 := by unfold Right at h; omega

theorem Is {p : Int} (h : Right p) : FF tab 16 [.i .i64 p] = some ⟨.b true, []⟩ := by
  refine call_by (A := A16) rfl rfl ?_
  rcases h with rfl | rfl | rfl | rfl | rfl | rfl | rfl <;> simp [A16, ↓W_seq, ↓W_skip, ↓W_ret, ↓W_exit, ↓W_reg, ↓W_cond, ↓W_block, ↓W_pre, ↓cleanO_some, ↓freezes_nil, ↓freezes_cons, ↓frzO_some, ↓andThen_normal, ↓andThen_ret, ↓andThen_exit, ↓unblock_normal, ↓unblock_ret, ↓unblock_exit, ↓Ends_normal, ↓Ends_ret, ↓steps_nil, ↓steps_cons, ↓step_some, ↓st_move, ↓st_pick, ↓st_bin, ↓st_un, ↓st_conv, ↓st_addr, ↓st_ixA, ↓st_ixS, ↓st_fld, ↓st_ixV, ↓st_ixStr, ↓st_ext, ↓st_build, ↓st_bsl, ↓st_mkS, ↓st_mkfn, ↓st_len, ↓st_mn, ↓st_mx, ↓st_nilChk, ↓st_tas, ↓st_slc, ↓st_load, ↓st_call, ↓st_store, ↓st_box, ↓st_alloc, ↓st_mkR, ↓st_bslR, ↓st_nilR, ↓st_app, ↓st_callK, ↓stepsAt_some, ↓onSome_some, ↓onB_true, ↓onB_false, ↓onG_tt, ↓onG_tf, ↓onG_ft, ↓onG_ff, ↓onG_un, ↓optPut_some, ↓optMem_some, enterS, enterL, evalO, evalL, constAV, get_cons, get_nil, put_cons, put_nil, look_cons, look_nil, putD_some, clean_mk, freeze_mk, mapS, AV.mapR, frz1, del_cons, del_nil, kill1, keepS_cons, keepS_nil, keepL_cons, keepL_nil, memb_cons, memb_nil, binV, intV, unV, eqlV, pureV, readV, writeV, stepK, convV_i, addrV, toArgs, toArg, anyRs, isRs, hasSl, hasSl2, hasSl1, hasSl2L, fromRet, fromRetL, fromRet1, finR, resL, resV, toRets, toRet, lentOf, one, Nat.beq, Nat.blt, Nat.ble, shiftV_shr, shiftV_shl, IntKind.bits, fillV, partV, cellsOf, AV.flat, zrep, List.getElem?_cons_zero, List.getElem?_cons_succ, List.length_cons, List.length_nil, List.set_cons_zero, List.set_cons_succ, stepsAt_some, onSome_some, onB_true, onB_false, onG_tt, onG_tf, onG_ft, onG_ff, onG_un, optPut_some, optMem_some]

theorem Mod (a : Int) {p : Int} (h : Right p) : FF tab 11 [.i .i64 a, .i .i64 p] = some ⟨.i .i64 (a % p), []⟩ := by
  refine call_by (A := A11) rfl rfl ?_
  have lo := h.lo
  have hi := h.hi
  have h0 : p ≠ 0 := by omega
  have h1 := Int.emod_nonneg a h0
  have h2 := Int.emod_lt_of_pos a (show 0 < p by omega)
  have h3 := Int.emod_nonneg (-a) h0
  have h4 := Int.emod_lt_of_pos (-a) (show 0 < p by omega)
  have e : (-a) % p = if a % p = 0 then 0 else p - a % p := by
    split
    · rename_i h
      exact Int.emod_eq_zero_of_dvd (Int.dvd_neg.2 (Int.dvd_of_emod_eq_zero h))
    · rename_i hne
      have h5 : (-a) = (p - a % p) + p * (-(a / p) - 1) := by
        have := Int.mul_ediv_add_emod a p
        have e1 : p * (-(a / p) - 1) = -(p * (a / p)) - p := by rw [Int.mul_sub, Int.mul_neg]; omega
        omega
      rw [h5, Int.add_mul_emod_self_left]
      exact Int.emod_eq_of_lt (by omega) (by omega)
  simp [A11, Is h, h0, ↓W_seq, ↓W_skip, ↓W_ret, ↓W_exit, ↓W_reg, ↓W_cond, ↓W_block, ↓W_pre, ↓cleanO_some, ↓freezes_nil, ↓freezes_cons, ↓frzO_some, ↓andThen_normal, ↓andThen_ret, ↓andThen_exit, ↓unblock_normal, ↓unblock_ret, ↓unblock_exit, ↓Ends_normal, ↓Ends_ret, ↓steps_nil, ↓steps_cons, ↓step_some, ↓st_move, ↓st_pick, ↓st_bin, ↓st_un, ↓st_conv, ↓st_addr, ↓st_ixA, ↓st_ixS, ↓st_fld, ↓st_ixV, ↓st_ixStr, ↓st_ext, ↓st_build, ↓st_bsl, ↓st_mkS, ↓st_mkfn, ↓st_len, ↓st_mn, ↓st_mx, ↓st_nilChk, ↓st_tas, ↓st_slc, ↓st_load, ↓st_call, ↓st_store, ↓st_box, ↓st_alloc, ↓st_mkR, ↓st_bslR, ↓st_nilR, ↓st_app, ↓st_callK, ↓stepsAt_some, ↓onSome_some, ↓onB_true, ↓onB_false, ↓onG_tt, ↓onG_tf, ↓onG_ft, ↓onG_ff, ↓onG_un, ↓optPut_some, ↓optMem_some, enterS, enterL, evalO, evalL, constAV, get_cons, get_nil, put_cons, put_nil, look_cons, look_nil, putD_some, clean_mk, freeze_mk, mapS, AV.mapR, frz1, del_cons, del_nil, kill1, keepS_cons, keepS_nil, keepL_cons, keepL_nil, memb_cons, memb_nil, binV, intV, unV, eqlV, pureV, readV, writeV, stepK, convV_i, addrV, toArgs, toArg, anyRs, isRs, hasSl, hasSl2, hasSl1, hasSl2L, fromRet, fromRetL, fromRet1, finR, resL, resV, toRets, toRet, lentOf, one, Nat.beq, Nat.blt, Nat.ble, shiftV_shr, shiftV_shl, IntKind.bits, fillV, partV, cellsOf, AV.flat, zrep, List.getElem?_cons_zero, List.getElem?_cons_succ, List.length_cons, List.length_nil, List.set_cons_zero, List.set_cons_succ, stepsAt_some, onSome_some, onB_true, onB_false, onG_tt, onG_tf, onG_ft, onG_ff, onG_un, optPut_some, optMem_some]
  refine onB_of (fun h => ?_) fun h => ?_
  · rw [tmod_eq] at *
    split at h
    · omega
    · rw [if_neg (by omega), i64_in _ (by split at e <;> omega)]
      split at e <;> omega
  · rw [tmod_eq] at *
    split at h
    · rw [if_pos (by omega)]
    · rw [if_neg (by omega)]
      split at e <;> omega

theorem prod_bound {x y p : Int} (h : Right p) (x0 : 0 ≤ x) (x1 : x < p) (y0 : 0 ≤ y) (y1 : y < p) : 0 ≤ x * y ∧ x * y ≤ 70231389093889 := by
  have hi := h.hi
  have h1 : x * y ≤ 8380417 * 8380417 := Int.mul_le_mul (by omega) (by omega) y0 (by omega)
  exact ⟨Int.mul_nonneg x0 y0, by omega⟩

theorem Mul (a b : Int) {p : Int} (h : Right p) : FF tab 9 [.i .i64 a, .i .i64 b, .i .i64 p] = some ⟨.i .i64 (a * b % p), []⟩ := by
  refine call_by (A := A9) rfl rfl ?_
  have lo := h.lo
  have hb := prod_bound h (Int.emod_nonneg a (by omega)) (Int.emod_lt_of_pos a (by omega)) (Int.emod_nonneg b (by omega)) (Int.emod_lt_of_pos b (by omega))
  have e1 : IntKind.i64.wrap (a % p * (b % p)) = a % p * (b % p) := i64_in _ (by omega)
  have e2 : a % p * (b % p) % p = a * b % p := (Int.mul_emod a b p).symm
  have hM := Mod (a % p * (b % p)) h
  rw [e2] at hM
  simp [A9, Mod _ h, e1, ↓W_seq, ↓W_skip, ↓W_ret, ↓W_exit, ↓W_reg, ↓W_cond, ↓W_block, ↓W_pre, ↓cleanO_some, ↓freezes_nil, ↓freezes_cons, ↓frzO_some, ↓andThen_normal, ↓andThen_ret, ↓andThen_exit, ↓unblock_normal, ↓unblock_ret, ↓unblock_exit, ↓Ends_normal, ↓Ends_ret, ↓steps_nil, ↓steps_cons, ↓step_some, ↓st_move, ↓st_pick, ↓st_bin, ↓st_un, ↓st_conv, ↓st_addr, ↓st_ixA, ↓st_ixS, ↓st_fld, ↓st_ixV, ↓st_ixStr, ↓st_ext, ↓st_build, ↓st_bsl, ↓st_mkS, ↓st_mkfn, ↓st_len, ↓st_mn, ↓st_mx, ↓st_nilChk, ↓st_tas, ↓st_slc, ↓st_load, ↓st_call, ↓st_store, ↓st_box, ↓st_alloc, ↓st_mkR, ↓st_bslR, ↓st_nilR, ↓st_app, ↓st_callK, ↓stepsAt_some, ↓onSome_some, ↓onB_true, ↓onB_false, ↓onG_tt, ↓onG_tf, ↓onG_ft, ↓onG_ff, ↓onG_un, ↓optPut_some, ↓optMem_some, enterS, enterL, evalO, evalL, constAV, get_cons, get_nil, put_cons, put_nil, look_cons, look_nil, putD_some, clean_mk, freeze_mk, mapS, AV.mapR, frz1, del_cons, del_nil, kill1, keepS_cons, keepS_nil, keepL_cons, keepL_nil, memb_cons, memb_nil, binV, intV, unV, eqlV, pureV, readV, writeV, stepK, convV_i, addrV, toArgs, toArg, anyRs, isRs, hasSl, hasSl2, hasSl1, hasSl2L, fromRet, fromRetL, fromRet1, finR, resL, resV, toRets, toRet, lentOf, one, Nat.beq, Nat.blt, Nat.ble, shiftV_shr, shiftV_shl, IntKind.bits, fillV, partV, cellsOf, AV.flat, zrep, List.getElem?_cons_zero, List.getElem?_cons_succ, List.length_cons, List.length_nil, List.set_cons_zero, List.set_cons_succ, stepsAt_some, onSome_some, onB_true, onB_false, onG_tt, onG_tf, onG_ft, onG_ff, onG_un, optPut_some, optMem_some]
  exact e2

theorem Add (a b : Int) {p : Int} (h : Right p) : FF tab 12 [.i .i64 a, .i .i64 b, .i .i64 p] = some ⟨.i .i64 ((a + b) % p), []⟩ := by
  refine call_by (A := A12) rfl rfl ?_
  have lo := h.lo
  have hi := h.hi
  have a0 := Int.emod_nonneg a (show p ≠ 0 by omega)
  have a1 := Int.emod_lt_of_pos a (show 0 < p by omega)
  have b0 := Int.emod_nonneg b (show p ≠ 0 by omega)
  have b1 := Int.emod_lt_of_pos b (show 0 < p by omega)
  have e1 : IntKind.i64.wrap (a % p + b % p) = a % p + b % p := i64_in _ (by omega)
  have hM := Mod (a % p + b % p) h
  rw [← Int.add_emod] at hM
  simp [A12, Mod _ h, e1, hM, ↓W_seq, ↓W_skip, ↓W_ret, ↓W_exit, ↓W_reg, ↓W_cond, ↓W_block, ↓W_pre, ↓cleanO_some, ↓freezes_nil, ↓freezes_cons, ↓frzO_some, ↓andThen_normal, ↓andThen_ret, ↓andThen_exit, ↓unblock_normal, ↓unblock_ret, ↓unblock_exit, ↓Ends_normal, ↓Ends_ret, ↓steps_nil, ↓steps_cons, ↓step_some, ↓st_move, ↓st_pick, ↓st_bin, ↓st_un, ↓st_conv, ↓st_addr, ↓st_ixA, ↓st_ixS, ↓st_fld, ↓st_ixV, ↓st_ixStr, ↓st_ext, ↓st_build, ↓st_bsl, ↓st_mkS, ↓st_mkfn, ↓st_len, ↓st_mn, ↓st_mx, ↓st_nilChk, ↓st_tas, ↓st_slc, ↓st_load, ↓st_call, ↓st_store, ↓st_box, ↓st_alloc, ↓st_mkR, ↓st_bslR, ↓st_nilR, ↓st_app, ↓st_callK, ↓stepsAt_some, ↓onSome_some, ↓onB_true, ↓onB_false, ↓onG_tt, ↓onG_tf, ↓onG_ft, ↓onG_ff, ↓onG_un, ↓optPut_some, ↓optMem_some, enterS, enterL, evalO, evalL, constAV, get_cons, get_nil, put_cons, put_nil, look_cons, look_nil, putD_some, clean_mk, freeze_mk, mapS, AV.mapR, frz1, del_cons, del_nil, kill1, keepS_cons, keepS_nil, keepL_cons, keepL_nil, memb_cons, memb_nil, binV, intV, unV, eqlV, pureV, readV, writeV, stepK, convV_i, addrV, toArgs, toArg, anyRs, isRs, hasSl, hasSl2, hasSl1, hasSl2L, fromRet, fromRetL, fromRet1, finR, resL, resV, toRets, toRet, lentOf, one, Nat.beq, Nat.blt, Nat.ble, shiftV_shr, shiftV_shl, IntKind.bits, fillV, partV, cellsOf, AV.flat, zrep, List.getElem?_cons_zero, List.getElem?_cons_succ, List.length_cons, List.length_nil, List.set_cons_zero, List.set_cons_succ, stepsAt_some, onSome_some, onB_true, onB_false, onG_tt, onG_tf, onG_ft, onG_ff, onG_un, optPut_some, optMem_some]

theorem Sub (a b : Int) {p : Int} (h : Right p) : FF tab 13 [.i .i64 a, .i .i64 b, .i .i64 p] = some ⟨.i .i64 ((a - b) % p), []⟩ := by
  refine call_by (A := A13) rfl rfl ?_
  have lo := h.lo
  have hi := h.hi
  have a0 := Int.emod_nonneg a (show p ≠ 0 by omega)
  have a1 := Int.emod_lt_of_pos a (show 0 < p by omega)
  have b0 := Int.emod_nonneg b (show p ≠ 0 by omega)
  have b1 := Int.emod_lt_of_pos b (show 0 < p by omega)
  have e1 : IntKind.i64.wrap (a % p - b % p) = a % p - b % p := i64_in _ (by omega)
  have hM := Mod (a % p - b % p) h
  rw [← Int.sub_emod] at hM
  simp [A13, Mod _ h, e1, hM, ↓W_seq, ↓W_skip, ↓W_ret, ↓W_exit, ↓W_reg, ↓W_cond, ↓W_block, ↓W_pre, ↓cleanO_some, ↓freezes_nil, ↓freezes_cons, ↓frzO_some, ↓andThen_normal, ↓andThen_ret, ↓andThen_exit, ↓unblock_normal, ↓unblock_ret, ↓unblock_exit, ↓Ends_normal, ↓Ends_ret, ↓steps_nil, ↓steps_cons, ↓step_some, ↓st_move, ↓st_pick, ↓st_bin, ↓st_un, ↓st_conv, ↓st_addr, ↓st_ixA, ↓st_ixS, ↓st_fld, ↓st_ixV, ↓st_ixStr, ↓st_ext, ↓st_build, ↓st_bsl, ↓st_mkS, ↓st_mkfn, ↓st_len, ↓st_mn, ↓st_mx, ↓st_nilChk, ↓st_tas, ↓st_slc, ↓st_load, ↓st_call, ↓st_store, ↓st_box, ↓st_alloc, ↓st_mkR, ↓st_bslR, ↓st_nilR, ↓st_app, ↓st_callK, ↓stepsAt_some, ↓onSome_some, ↓onB_true, ↓onB_false, ↓onG_tt, ↓onG_tf, ↓onG_ft, ↓onG_ff, ↓onG_un, ↓optPut_some, ↓optMem_some, enterS, enterL, evalO, evalL, constAV, get_cons, get_nil, put_cons, put_nil, look_cons, look_nil, putD_some, clean_mk, freeze_mk, mapS, AV.mapR, frz1, del_cons, del_nil, kill1, keepS_cons, keepS_nil, keepL_cons, keepL_nil, memb_cons, memb_nil, binV, intV, unV, eqlV, pureV, readV, writeV, stepK, convV_i, addrV, toArgs, toArg, anyRs, isRs, hasSl, hasSl2, hasSl1, hasSl2L, fromRet, fromRetL, fromRet1, finR, resL, resV, toRets, toRet, lentOf, one, Nat.beq, Nat.blt, Nat.ble, shiftV_shr, shiftV_shl, IntKind.bits, fillV, partV, cellsOf, AV.flat, zrep, List.getElem?_cons_zero, List.getElem?_cons_succ, List.length_cons, List.length_nil, List.set_cons_zero, List.set_cons_succ, stepsAt_some, onSome_some, onB_true, onB_false, onG_tt, onG_tf, onG_ft, onG_ff, onG_un, optPut_some, optMem_some]

/-- From 0 to below a bound. -/
theorem Number (a m : Int) (hm : 0 < m) (hm2 : m ≤ 4611686018427387904) : FF tab 8 [.i .i64 a, .i .i64 m] = some ⟨.i .i64 (a % m), []⟩ := by
  refine call_by (A := A8) rfl rfl ?_
  have h0 : m ≠ 0 := by omega
  simp [A8, h0, ↓W_seq, ↓W_skip, ↓W_ret, ↓W_exit, ↓W_reg, ↓W_cond, ↓W_block, ↓W_pre, ↓cleanO_some, ↓freezes_nil, ↓freezes_cons, ↓frzO_some, ↓andThen_normal, ↓andThen_ret, ↓andThen_exit, ↓unblock_normal, ↓unblock_ret, ↓unblock_exit, ↓Ends_normal, ↓Ends_ret, ↓steps_nil, ↓steps_cons, ↓step_some, ↓st_move, ↓st_pick, ↓st_bin, ↓st_un, ↓st_conv, ↓st_addr, ↓st_ixA, ↓st_ixS, ↓st_fld, ↓st_ixV, ↓st_ixStr, ↓st_ext, ↓st_build, ↓st_bsl, ↓st_mkS, ↓st_mkfn, ↓st_len, ↓st_mn, ↓st_mx, ↓st_nilChk, ↓st_tas, ↓st_slc, ↓st_load, ↓st_call, ↓st_store, ↓st_box, ↓st_alloc, ↓st_mkR, ↓st_bslR, ↓st_nilR, ↓st_app, ↓st_callK, ↓stepsAt_some, ↓onSome_some, ↓onB_true, ↓onB_false, ↓onG_tt, ↓onG_tf, ↓onG_ft, ↓onG_ff, ↓onG_un, ↓optPut_some, ↓optMem_some, enterS, enterL, evalO, evalL, constAV, get_cons, get_nil, put_cons, put_nil, look_cons, look_nil, putD_some, clean_mk, freeze_mk, mapS, AV.mapR, frz1, del_cons, del_nil, kill1, keepS_cons, keepS_nil, keepL_cons, keepL_nil, memb_cons, memb_nil, binV, intV, unV, eqlV, pureV, readV, writeV, stepK, convV_i, addrV, toArgs, toArg, anyRs, isRs, hasSl, hasSl2, hasSl1, hasSl2L, fromRet, fromRetL, fromRet1, finR, resL, resV, toRets, toRet, lentOf, one, Nat.beq, Nat.blt, Nat.ble, shiftV_shr, shiftV_shl, IntKind.bits, fillV, partV, cellsOf, AV.flat, zrep, List.getElem?_cons_zero, List.getElem?_cons_succ, List.length_cons, List.length_nil, List.set_cons_zero, List.set_cons_succ, stepsAt_some, onSome_some, onB_true, onB_false, onG_tt, onG_tf, onG_ft, onG_ff, onG_un, optPut_some, optMem_some]
  have h1 := Int.emod_nonneg a h0
  have h2 := Int.emod_lt_of_pos a hm
  have h3 := Int.emod_nonneg (-a) h0
  have h4 := Int.emod_lt_of_pos (-a) hm
  have e : (-a) % m = if a % m = 0 then 0 else m - a % m := by
    split
    · rename_i h
      exact Int.emod_eq_zero_of_dvd (Int.dvd_neg.2 (Int.dvd_of_emod_eq_zero h))
    · rename_i hne
      have h5 : (-a) = (m - a % m) + m * (-(a / m) - 1) := by
        have := Int.mul_ediv_add_emod a m
        have e1 : m * (-(a / m) - 1) = -(m * (a / m)) - m := by rw [Int.mul_sub, Int.mul_neg]; omega
        omega
      rw [h5, Int.add_mul_emod_self_left]
      exact Int.emod_eq_of_lt (by omega) (by omega)
  refine onB_of (fun h => ?_) fun h => ?_
  · rw [tmod_eq] at *
    split at h
    · omega
    · rw [if_neg (by omega), i64_in _ (by split at e <;> omega)]
      split at e <;> omega
  · rw [tmod_eq] at *
    split at h
    · rw [if_pos (by omega)]
    · rw [if_neg (by omega)]
      split at e <;> omega

theorem pow_mod (a p : Int) : ∀ n : Nat, (a % p) ^ n % p = a ^ n % p
  | 0 => by simp
  | n + 1 => by
    rw [Int.pow_succ, Int.pow_succ, Int.mul_emod, pow_mod a p n, Int.emod_emod, ← Int.mul_emod]

theorem sq_pow (x : Int) : ∀ n : Nat, (x * x) ^ n = x ^ (2 * n)
  | 0 => by simp
  | n + 1 => by
    rw [Int.pow_succ, sq_pow x n, show 2 * (n + 1) = 2 * n + 1 + 1 by omega, Int.pow_succ, Int.pow_succ, Int.mul_assoc]

theorem odd_round (x out p : Int) (n : Nat) (h : n % 2 = 1) : (out * x % p) * (x * x % p) ^ (n / 2) % p = out * x ^ n % p := by
  rw [Int.mul_emod, pow_mod, Int.emod_emod, ← Int.mul_emod, sq_pow]
  have e : n = 2 * (n / 2) + 1 := by omega
  conv => rhs; rw [e, Int.pow_succ]
  congr 1
  rw [Int.mul_assoc, Int.mul_comm x]

theorem even_round (x out p : Int) (n : Nat) (h : n % 2 = 0) : out * (x * x % p) ^ (n / 2) % p = out * x ^ n % p := by
  rw [Int.mul_emod, pow_mod, ← Int.mul_emod, sq_pow]
  have e : n = 2 * (n / 2) := by omega
  conv => rhs; rw [e]

theorem Pow_neg (a : Int) {e p : Int} (h : Right p) (he : e < 0) : FF tab 10 [.i .i64 a, .i .i64 e, .i .i64 p] = some ⟨.i .i64 0, []⟩ := by
  refine call_by (A := A10) rfl rfl ?_
  simp [A10, Is h, he, ↓W_seq, ↓W_skip, ↓W_ret, ↓W_exit, ↓W_reg, ↓W_cond, ↓W_block, ↓W_pre, ↓cleanO_some, ↓freezes_nil, ↓freezes_cons, ↓frzO_some, ↓andThen_normal, ↓andThen_ret, ↓andThen_exit, ↓unblock_normal, ↓unblock_ret, ↓unblock_exit, ↓Ends_normal, ↓Ends_ret, ↓steps_nil, ↓steps_cons, ↓step_some, ↓st_move, ↓st_pick, ↓st_bin, ↓st_un, ↓st_conv, ↓st_addr, ↓st_ixA, ↓st_ixS, ↓st_fld, ↓st_ixV, ↓st_ixStr, ↓st_ext, ↓st_build, ↓st_bsl, ↓st_mkS, ↓st_mkfn, ↓st_len, ↓st_mn, ↓st_mx, ↓st_nilChk, ↓st_tas, ↓st_slc, ↓st_load, ↓st_call, ↓st_store, ↓st_box, ↓st_alloc, ↓st_mkR, ↓st_bslR, ↓st_nilR, ↓st_app, ↓st_callK, ↓stepsAt_some, ↓onSome_some, ↓onB_true, ↓onB_false, ↓onG_tt, ↓onG_tf, ↓onG_ft, ↓onG_ff, ↓onG_un, ↓optPut_some, ↓optMem_some, enterS, enterL, evalO, evalL, constAV, get_cons, get_nil, put_cons, put_nil, look_cons, look_nil, putD_some, clean_mk, freeze_mk, mapS, AV.mapR, frz1, del_cons, del_nil, kill1, keepS_cons, keepS_nil, keepL_cons, keepL_nil, memb_cons, memb_nil, binV, intV, unV, eqlV, pureV, readV, writeV, stepK, convV_i, addrV, toArgs, toArg, anyRs, isRs, hasSl, hasSl2, hasSl1, hasSl2L, fromRet, fromRetL, fromRet1, finR, resL, resV, toRets, toRet, lentOf, one, Nat.beq, Nat.blt, Nat.ble, shiftV_shr, shiftV_shl, IntKind.bits, fillV, partV, cellsOf, AV.flat, zrep, List.getElem?_cons_zero, List.getElem?_cons_succ, List.length_cons, List.length_nil, List.set_cons_zero, List.set_cons_succ, stepsAt_some, onSome_some, onB_true, onB_false, onG_tt, onG_tf, onG_ft, onG_ff, onG_un, optPut_some, optMem_some]

theorem Pow (a : Int) {e p : Int} (h : Right p) (he : 0 ≤ e) (he2 : e ≤ 9223372036854775807) : FF tab 10 [.i .i64 a, .i .i64 e, .i .i64 p] = some ⟨.i .i64 (a ^ e.toNat % p), []⟩ := by
  refine call_by (A := A10) rfl rfl ?_
  have lo := h.lo
  have hn : ¬ e < 0 := by omega
  simp [A10, Is h, hn, Mod _ h, ↓W_seq, ↓W_skip, ↓W_ret, ↓W_exit, ↓W_reg, ↓W_cond, ↓W_block, ↓W_pre, ↓cleanO_some, ↓freezes_nil, ↓freezes_cons, ↓frzO_some, ↓andThen_normal, ↓andThen_ret, ↓andThen_exit, ↓unblock_normal, ↓unblock_ret, ↓unblock_exit, ↓Ends_normal, ↓Ends_ret, ↓steps_nil, ↓steps_cons, ↓step_some, ↓st_move, ↓st_pick, ↓st_bin, ↓st_un, ↓st_conv, ↓st_addr, ↓st_ixA, ↓st_ixS, ↓st_fld, ↓st_ixV, ↓st_ixStr, ↓st_ext, ↓st_build, ↓st_bsl, ↓st_mkS, ↓st_mkfn, ↓st_len, ↓st_mn, ↓st_mx, ↓st_nilChk, ↓st_tas, ↓st_slc, ↓st_load, ↓st_call, ↓st_store, ↓st_box, ↓st_alloc, ↓st_mkR, ↓st_bslR, ↓st_nilR, ↓st_app, ↓st_callK, ↓stepsAt_some, ↓onSome_some, ↓onB_true, ↓onB_false, ↓onG_tt, ↓onG_tf, ↓onG_ft, ↓onG_ff, ↓onG_un, ↓optPut_some, ↓optMem_some, enterS, enterL, evalO, evalL, constAV, get_cons, get_nil, put_cons, put_nil, look_cons, look_nil, putD_some, clean_mk, freeze_mk, mapS, AV.mapR, frz1, del_cons, del_nil, kill1, keepS_cons, keepS_nil, keepL_cons, keepL_nil, memb_cons, memb_nil, binV, intV, unV, eqlV, pureV, readV, writeV, stepK, convV_i, addrV, toArgs, toArg, anyRs, isRs, hasSl, hasSl2, hasSl1, hasSl2L, fromRet, fromRetL, fromRet1, finR, resL, resV, toRets, toRet, lentOf, one, Nat.beq, Nat.blt, Nat.ble, shiftV_shr, shiftV_shl, IntKind.bits, fillV, partV, cellsOf, AV.flat, zrep, List.getElem?_cons_zero, List.getElem?_cons_succ, List.length_cons, List.length_nil, List.set_cons_zero, List.set_cons_succ, stepsAt_some, onSome_some, onB_true, onB_false, onG_tt, onG_tf, onG_ft, onG_ff, onG_un, optPut_some, optMem_some]
  refine w_rounds (I := fun m S => ∃ x out f : Int, S.clean [8, 7, 2, 1] [] = ⟨[(8, .i .i64 x), (7, .i .i64 out), (2, .i .i64 p), (1, .i .i64 f)], []⟩ ∧ 0 ≤ f ∧ f ≤ 9223372036854775807 ∧ m = f.toNat ∧
    0 ≤ out ∧ out < p ∧ (out * x ^ f.toNat) % p = a ^ e.toNat % p) (m := e.toNat) ?_ ?_
  · rintro m S ⟨x, out, f, hS, f0, f1, rfl, o0, o1, hx⟩
    rw [hS]
    simp [Mul _ _ h, ↓W_seq, ↓W_skip, ↓W_ret, ↓W_exit, ↓W_reg, ↓W_cond, ↓W_block, ↓W_pre, ↓cleanO_some, ↓freezes_nil, ↓freezes_cons, ↓frzO_some, ↓andThen_normal, ↓andThen_ret, ↓andThen_exit, ↓unblock_normal, ↓unblock_ret, ↓unblock_exit, ↓Ends_normal, ↓Ends_ret, ↓steps_nil, ↓steps_cons, ↓step_some, ↓st_move, ↓st_pick, ↓st_bin, ↓st_un, ↓st_conv, ↓st_addr, ↓st_ixA, ↓st_ixS, ↓st_fld, ↓st_ixV, ↓st_ixStr, ↓st_ext, ↓st_build, ↓st_bsl, ↓st_mkS, ↓st_mkfn, ↓st_len, ↓st_mn, ↓st_mx, ↓st_nilChk, ↓st_tas, ↓st_slc, ↓st_load, ↓st_call, ↓st_store, ↓st_box, ↓st_alloc, ↓st_mkR, ↓st_bslR, ↓st_nilR, ↓st_app, ↓st_callK, ↓stepsAt_some, ↓onSome_some, ↓onB_true, ↓onB_false, ↓onG_tt, ↓onG_tf, ↓onG_ft, ↓onG_ff, ↓onG_un, ↓optPut_some, ↓optMem_some, enterS, enterL, evalO, evalL, constAV, get_cons, get_nil, put_cons, put_nil, look_cons, look_nil, putD_some, clean_mk, freeze_mk, mapS, AV.mapR, frz1, del_cons, del_nil, kill1, keepS_cons, keepS_nil, keepL_cons, keepL_nil, memb_cons, memb_nil, binV, intV, unV, eqlV, pureV, readV, writeV, stepK, convV_i, addrV, toArgs, toArg, anyRs, isRs, hasSl, hasSl2, hasSl1, hasSl2L, fromRet, fromRetL, fromRet1, finR, resL, resV, toRets, toRet, lentOf, one, Nat.beq, Nat.blt, Nat.ble, shiftV_shr, shiftV_shl, IntKind.bits, fillV, partV, cellsOf, AV.flat, zrep, List.getElem?_cons_zero, List.getElem?_cons_succ, List.length_cons, List.length_nil, List.set_cons_zero, List.set_cons_succ, stepsAt_some, onSome_some, onB_true, onB_false, onG_tt, onG_tf, onG_ft, onG_ff, onG_un, optPut_some, optMem_some]
    have q1 : f.tmod 2 = f % 2 := Int.tmod_eq_emod_of_nonneg f0
    have q2 : f.tdiv 2 = f / 2 := Int.tdiv_eq_ediv_of_nonneg f0
    have q3 : IntKind.i64.wrap (f / 2) = f / 2 := i64_in _ (by omega)
    have q4 : (f / 2).toNat = f.toNat / 2 := by omega
    rw [q1, q2, q3]
    refine onB_of (fun hf => ?_) fun hf => ?_
    · refine onB_of (fun hb => ?_) fun hb => ?_
      · refine ⟨(f / 2).toNat, by omega, _, _, _, ⟨rfl, rfl, rfl⟩, by omega, by omega, rfl, Int.emod_nonneg _ (by omega), Int.emod_lt_of_pos _ (by omega), ?_⟩
        rw [q4, odd_round _ _ _ _ (by omega), hx]
      · refine ⟨(f / 2).toNat, by omega, _, _, _, ⟨rfl, rfl, rfl⟩, by omega, by omega, rfl, o0, o1, ?_⟩
        rw [q4, even_round _ _ _ _ (by omega), hx]
    · have : f = 0 := by omega
      subst this
      rw [← hx]
      simp only [Int.toNat_zero, Int.pow_zero, Int.mul_one]
      exact (Int.emod_eq_of_lt o0 o1).symm
  · refine ⟨a % p, 1, e, ?_, he, he2, rfl, by omega, by omega, ?_⟩
    · simp [↓W_seq, ↓W_skip, ↓W_ret, ↓W_exit, ↓W_reg, ↓W_cond, ↓W_block, ↓W_pre, ↓cleanO_some, ↓freezes_nil, ↓freezes_cons, ↓frzO_some, ↓andThen_normal, ↓andThen_ret, ↓andThen_exit, ↓unblock_normal, ↓unblock_ret, ↓unblock_exit, ↓Ends_normal, ↓Ends_ret, ↓steps_nil, ↓steps_cons, ↓step_some, ↓st_move, ↓st_pick, ↓st_bin, ↓st_un, ↓st_conv, ↓st_addr, ↓st_ixA, ↓st_ixS, ↓st_fld, ↓st_ixV, ↓st_ixStr, ↓st_ext, ↓st_build, ↓st_bsl, ↓st_mkS, ↓st_mkfn, ↓st_len, ↓st_mn, ↓st_mx, ↓st_nilChk, ↓st_tas, ↓st_slc, ↓st_load, ↓st_call, ↓st_store, ↓st_box, ↓st_alloc, ↓st_mkR, ↓st_bslR, ↓st_nilR, ↓st_app, ↓st_callK, ↓stepsAt_some, ↓onSome_some, ↓onB_true, ↓onB_false, ↓onG_tt, ↓onG_tf, ↓onG_ft, ↓onG_ff, ↓onG_un, ↓optPut_some, ↓optMem_some, enterS, enterL, evalO, evalL, constAV, get_cons, get_nil, put_cons, put_nil, look_cons, look_nil, putD_some, clean_mk, freeze_mk, mapS, AV.mapR, frz1, del_cons, del_nil, kill1, keepS_cons, keepS_nil, keepL_cons, keepL_nil, memb_cons, memb_nil, binV, intV, unV, eqlV, pureV, readV, writeV, stepK, convV_i, addrV, toArgs, toArg, anyRs, isRs, hasSl, hasSl2, hasSl1, hasSl2L, fromRet, fromRetL, fromRet1, finR, resL, resV, toRets, toRet, lentOf, one, Nat.beq, Nat.blt, Nat.ble, shiftV_shr, shiftV_shl, IntKind.bits, fillV, partV, cellsOf, AV.flat, zrep, List.getElem?_cons_zero, List.getElem?_cons_succ, List.length_cons, List.length_nil, List.set_cons_zero, List.set_cons_succ, stepsAt_some, onSome_some, onB_true, onB_false, onG_tt, onG_tf, onG_ft, onG_ff, onG_un, optPut_some, optMem_some]
    · rw [Int.one_mul, pow_mod]

theorem Inv (a : Int) {p : Int} (h : Right p) : FF tab 14 [.i .i64 a, .i .i64 p] = some ⟨if a % p = 0 then .tp [.i .i64 0, .er 0] else .tp [.i .i64 (a ^ (p - 2).toNat % p), .nl], []⟩ := by
  refine call_by (A := A14) rfl rfl ?_
  have lo := h.lo
  have hi := h.hi
  have e1 : IntKind.i64.wrap (p - 2) = p - 2 := i64_in _ (by omega)
  have hP := Pow a h (e := p - 2) (by omega) (by omega)
  simp [A14, Is h, Mod _ h, e1, hP, ↓W_seq, ↓W_skip, ↓W_ret, ↓W_exit, ↓W_reg, ↓W_cond, ↓W_block, ↓W_pre, ↓cleanO_some, ↓freezes_nil, ↓freezes_cons, ↓frzO_some, ↓andThen_normal, ↓andThen_ret, ↓andThen_exit, ↓unblock_normal, ↓unblock_ret, ↓unblock_exit, ↓Ends_normal, ↓Ends_ret, ↓steps_nil, ↓steps_cons, ↓step_some, ↓st_move, ↓st_pick, ↓st_bin, ↓st_un, ↓st_conv, ↓st_addr, ↓st_ixA, ↓st_ixS, ↓st_fld, ↓st_ixV, ↓st_ixStr, ↓st_ext, ↓st_build, ↓st_bsl, ↓st_mkS, ↓st_mkfn, ↓st_len, ↓st_mn, ↓st_mx, ↓st_nilChk, ↓st_tas, ↓st_slc, ↓st_load, ↓st_call, ↓st_store, ↓st_box, ↓st_alloc, ↓st_mkR, ↓st_bslR, ↓st_nilR, ↓st_app, ↓st_callK, ↓stepsAt_some, ↓onSome_some, ↓onB_true, ↓onB_false, ↓onG_tt, ↓onG_tf, ↓onG_ft, ↓onG_ff, ↓onG_un, ↓optPut_some, ↓optMem_some, enterS, enterL, evalO, evalL, constAV, get_cons, get_nil, put_cons, put_nil, look_cons, look_nil, putD_some, clean_mk, freeze_mk, mapS, AV.mapR, frz1, del_cons, del_nil, kill1, keepS_cons, keepS_nil, keepL_cons, keepL_nil, memb_cons, memb_nil, binV, intV, unV, eqlV, pureV, readV, writeV, stepK, convV_i, addrV, toArgs, toArg, anyRs, isRs, hasSl, hasSl2, hasSl1, hasSl2L, fromRet, fromRetL, fromRet1, finR, resL, resV, toRets, toRet, lentOf, one, Nat.beq, Nat.blt, Nat.ble, shiftV_shr, shiftV_shl, IntKind.bits, fillV, partV, cellsOf, AV.flat, zrep, List.getElem?_cons_zero, List.getElem?_cons_succ, List.length_cons, List.length_nil, List.set_cons_zero, List.set_cons_succ, stepsAt_some, onSome_some, onB_true, onB_false, onG_tt, onG_tf, onG_ft, onG_ff, onG_un, optPut_some, optMem_some]
  refine onB_of (fun h => ?_) fun h => ?_
  · simp [h]
  · simp [h]

theorem Center (a : Int) {p : Int} (h : Right p) : FF tab 15 [.i .i64 a, .i .i64 p] = some ⟨.i .i64 (if (p - 1) / 2 < a % p then a % p - p else a % p), []⟩ := by
  refine call_by (A := A15) rfl rfl ?_
  have lo := h.lo
  have hi := h.hi
  have a0 := Int.emod_nonneg a (show p ≠ 0 by omega)
  have a1 := Int.emod_lt_of_pos a (show 0 < p by omega)
  have e1 : (p - 1).tdiv 2 = (p - 1) / 2 := Int.tdiv_eq_ediv_of_nonneg (by omega)
  simp (disch := omega) [A15, Is h, Mod _ h, e1, i64_in, ↓W_seq, ↓W_skip, ↓W_ret, ↓W_exit, ↓W_reg, ↓W_cond, ↓W_block, ↓W_pre, ↓cleanO_some, ↓freezes_nil, ↓freezes_cons, ↓frzO_some, ↓andThen_normal, ↓andThen_ret, ↓andThen_exit, ↓unblock_normal, ↓unblock_ret, ↓unblock_exit, ↓Ends_normal, ↓Ends_ret, ↓steps_nil, ↓steps_cons, ↓step_some, ↓st_move, ↓st_pick, ↓st_bin, ↓st_un, ↓st_conv, ↓st_addr, ↓st_ixA, ↓st_ixS, ↓st_fld, ↓st_ixV, ↓st_ixStr, ↓st_ext, ↓st_build, ↓st_bsl, ↓st_mkS, ↓st_mkfn, ↓st_len, ↓st_mn, ↓st_mx, ↓st_nilChk, ↓st_tas, ↓st_slc, ↓st_load, ↓st_call, ↓st_store, ↓st_box, ↓st_alloc, ↓st_mkR, ↓st_bslR, ↓st_nilR, ↓st_app, ↓st_callK, ↓stepsAt_some, ↓onSome_some, ↓onB_true, ↓onB_false, ↓onG_tt, ↓onG_tf, ↓onG_ft, ↓onG_ff, ↓onG_un, ↓optPut_some, ↓optMem_some, enterS, enterL, evalO, evalL, constAV, get_cons, get_nil, put_cons, put_nil, look_cons, look_nil, putD_some, clean_mk, freeze_mk, mapS, AV.mapR, frz1, del_cons, del_nil, kill1, keepS_cons, keepS_nil, keepL_cons, keepL_nil, memb_cons, memb_nil, binV, intV, unV, eqlV, pureV, readV, writeV, stepK, convV_i, addrV, toArgs, toArg, anyRs, isRs, hasSl, hasSl2, hasSl1, hasSl2L, fromRet, fromRetL, fromRet1, finR, resL, resV, toRets, toRet, lentOf, one, Nat.beq, Nat.blt, Nat.ble, shiftV_shr, shiftV_shl, IntKind.bits, fillV, partV, cellsOf, AV.flat, zrep, List.getElem?_cons_zero, List.getElem?_cons_succ, List.length_cons, List.length_nil, List.set_cons_zero, List.set_cons_succ, stepsAt_some, onSome_some, onB_true, onB_false, onG_tt, onG_tf, onG_ft, onG_ff, onG_un, optPut_some, optMem_some]
  refine onB_of (fun h => ?_) fun h => ?_
  · intro h'; omega
  · intro h'; omega

theorem Primes : FF tab 7 [] = some ⟨.sl [.i .i64 17, .i .i64 97, .i .i64 257, .i .i64 3329, .i .i64 7681, .i .i64 12289, .i .i64 8380417] 7, []⟩ := by
  refine call_by (A := A7) rfl rfl ?_
  simp [A7, ↓W_seq, ↓W_skip, ↓W_ret, ↓W_exit, ↓W_reg, ↓W_cond, ↓W_block, ↓W_pre, ↓cleanO_some, ↓freezes_nil, ↓freezes_cons, ↓frzO_some, ↓andThen_normal, ↓andThen_ret, ↓andThen_exit, ↓unblock_normal, ↓unblock_ret, ↓unblock_exit, ↓Ends_normal, ↓Ends_ret, ↓steps_nil, ↓steps_cons, ↓step_some, ↓st_move, ↓st_pick, ↓st_bin, ↓st_un, ↓st_conv, ↓st_addr, ↓st_ixA, ↓st_ixS, ↓st_fld, ↓st_ixV, ↓st_ixStr, ↓st_ext, ↓st_build, ↓st_bsl, ↓st_mkS, ↓st_mkfn, ↓st_len, ↓st_mn, ↓st_mx, ↓st_nilChk, ↓st_tas, ↓st_slc, ↓st_load, ↓st_call, ↓st_store, ↓st_box, ↓st_alloc, ↓st_mkR, ↓st_bslR, ↓st_nilR, ↓st_app, ↓st_callK, ↓stepsAt_some, ↓onSome_some, ↓onB_true, ↓onB_false, ↓onG_tt, ↓onG_tf, ↓onG_ft, ↓onG_ff, ↓onG_un, ↓optPut_some, ↓optMem_some, enterS, enterL, evalO, evalL, constAV, get_cons, get_nil, put_cons, put_nil, look_cons, look_nil, putD_some, clean_mk, freeze_mk, mapS, AV.mapR, frz1, del_cons, del_nil, kill1, keepS_cons, keepS_nil, keepL_cons, keepL_nil, memb_cons, memb_nil, binV, intV, unV, eqlV, pureV, readV, writeV, stepK, convV_i, addrV, toArgs, toArg, anyRs, isRs, hasSl, hasSl2, hasSl1, hasSl2L, fromRet, fromRetL, fromRet1, finR, resL, resV, toRets, toRet, lentOf, one, Nat.beq, Nat.blt, Nat.ble, shiftV_shr, shiftV_shl, IntKind.bits, fillV, partV, cellsOf, AV.flat, zrep, List.getElem?_cons_zero, List.getElem?_cons_succ, List.length_cons, List.length_nil, List.set_cons_zero, List.set_cons_succ, stepsAt_some, onSome_some, onB_true, onB_false, onG_tt, onG_tf, onG_ft, onG_ff, onG_un, optPut_some, optMem_some]

theorem first : FF tab 6 [] = some ⟨.b true, []⟩ := by
  refine call_by (A := A6) rfl rfl ?_
  have h : Right 17 := .inl rfl
  have h1 := Inv 2 h
  have h2 := Mod (-1) h
  rw [show (2 : Int) % 17 = 2 from rfl, if_neg (by decide), show (2 : Int) ^ (17 - 2 : Int).toNat % 17 = 9 by decide] at h1
  rw [show (-1 : Int) % 17 = 16 from rfl] at h2
  simp [A6, h1, h2, ↓W_seq, ↓W_skip, ↓W_ret, ↓W_exit, ↓W_reg, ↓W_cond, ↓W_block, ↓W_pre, ↓cleanO_some, ↓freezes_nil, ↓freezes_cons, ↓frzO_some, ↓andThen_normal, ↓andThen_ret, ↓andThen_exit, ↓unblock_normal, ↓unblock_ret, ↓unblock_exit, ↓Ends_normal, ↓Ends_ret, ↓steps_nil, ↓steps_cons, ↓step_some, ↓st_move, ↓st_pick, ↓st_bin, ↓st_un, ↓st_conv, ↓st_addr, ↓st_ixA, ↓st_ixS, ↓st_fld, ↓st_ixV, ↓st_ixStr, ↓st_ext, ↓st_build, ↓st_bsl, ↓st_mkS, ↓st_mkfn, ↓st_len, ↓st_mn, ↓st_mx, ↓st_nilChk, ↓st_tas, ↓st_slc, ↓st_load, ↓st_call, ↓st_store, ↓st_box, ↓st_alloc, ↓st_mkR, ↓st_bslR, ↓st_nilR, ↓st_app, ↓st_callK, ↓stepsAt_some, ↓onSome_some, ↓onB_true, ↓onB_false, ↓onG_tt, ↓onG_tf, ↓onG_ft, ↓onG_ff, ↓onG_un, ↓optPut_some, ↓optMem_some, enterS, enterL, evalO, evalL, constAV, get_cons, get_nil, put_cons, put_nil, look_cons, look_nil, putD_some, clean_mk, freeze_mk, mapS, AV.mapR, frz1, del_cons, del_nil, kill1, keepS_cons, keepS_nil, keepL_cons, keepL_nil, memb_cons, memb_nil, binV, intV, unV, eqlV, pureV, readV, writeV, stepK, convV_i, addrV, toArgs, toArg, anyRs, isRs, hasSl, hasSl2, hasSl1, hasSl2L, fromRet, fromRetL, fromRet1, finR, resL, resV, toRets, toRet, lentOf, one, Nat.beq, Nat.blt, Nat.ble, shiftV_shr, shiftV_shl, IntKind.bits, fillV, partV, cellsOf, AV.flat, zrep, List.getElem?_cons_zero, List.getElem?_cons_succ, List.length_cons, List.length_nil, List.set_cons_zero, List.set_cons_succ, stepsAt_some, onSome_some, onB_true, onB_false, onG_tt, onG_tf, onG_ft, onG_ff, onG_un, optPut_some, optMem_some]

end Zab.YthfbehemcpghaaaDoor
