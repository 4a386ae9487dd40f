/- What the functions of the chapter on hints give back. -/
import Derived.Test.YthfbehemcpghaaaZabSim
import Derived.Test.YthfbehemcpghaaaAbs
namespace Zab.Ythfbehemcpghaaa
open Go
open Go.IntWalk (i64_in)
set_option maxRecDepth 100000
set_option linter.unusedSimpArgs false
set_option linter.unusedVariables false

theorem Is_q : FF tab 27 [.i .i64 8380417] = some ⟨.b true, []⟩ := by
  refine call_by (A := A27) rfl rfl ?_
  simp [A27, ↓W_seq, ↓W_skip, ↓W_ret, ↓W_exit, ↓W_reg, ↓W_cond, ↓W_block, ↓W_pre, ↓cleanO_some, ↓freezes_nil, ↓freezes_cons, ↓frzO_some, ↓andThen_normal, ↓andThen_ret, ↓andThen_exit, ↓unblock_normal, ↓unblock_ret, ↓unblock_exit, ↓Ends_normal, ↓Ends_ret, ↓steps_nil, ↓steps_cons, ↓step_some, ↓st_move, ↓st_pick, ↓st_bin, ↓st_un, ↓st_conv, ↓st_addr, ↓st_ixA, ↓st_ixS, ↓st_fld, ↓st_ixV, ↓st_ixStr, ↓st_ext, ↓st_build, ↓st_bsl, ↓st_mkS, ↓st_mkfn, ↓st_len, ↓st_mn, ↓st_mx, ↓st_nilChk, ↓st_tas, ↓st_slc, ↓st_load, ↓st_call, ↓st_store, ↓st_box, ↓st_alloc, ↓st_mkR, ↓st_bslR, ↓st_nilR, ↓st_app, ↓st_callK, ↓stepsAt_some, ↓onSome_some, ↓onB_true, ↓onB_false, ↓onG_tt, ↓onG_tf, ↓onG_ft, ↓onG_ff, ↓onG_un, ↓optPut_some, ↓optMem_some, enterS, enterL, evalO, evalL, constAV, get_cons, get_nil, put_cons, put_nil, look_cons, look_nil, putD_some, clean_mk, freeze_mk, mapS, AV.mapR, frz1, del_cons, del_nil, kill1, keepS_cons, keepS_nil, keepL_cons, keepL_nil, memb_cons, memb_nil, binV, intV, unV, eqlV, pureV, readV, writeV, stepK, convV_i, addrV, toArgs, toArg, anyRs, isRs, hasSl, hasSl2, hasSl1, hasSl2L, fromRet, fromRetL, fromRet1, finR, resL, resV, toRets, toRet, lentOf, one, Nat.beq, Nat.blt, Nat.ble, shiftV_shr, shiftV_shl, IntKind.bits, fillV, partV, cellsOf, AV.flat, zrep, List.getElem?_cons_zero, List.getElem?_cons_succ, List.length_cons, List.length_nil, List.set_cons_zero, List.set_cons_succ, stepsAt_some, onSome_some, onB_true, onB_false, onG_tt, onG_tf, onG_ft, onG_ff, onG_un, optPut_some, optMem_some]

theorem Mod_q (a : Int) : FF tab 20 [.i .i64 a, .i .i64 8380417] = some ⟨.i .i64 (a % 8380417), []⟩ := by
  refine call_by (A := A20) rfl rfl ?_
  simp [A20, Is_q, ↓W_seq, ↓W_skip, ↓W_ret, ↓W_exit, ↓W_reg, ↓W_cond, ↓W_block, ↓W_pre, ↓cleanO_some, ↓freezes_nil, ↓freezes_cons, ↓frzO_some, ↓andThen_normal, ↓andThen_ret, ↓andThen_exit, ↓unblock_normal, ↓unblock_ret, ↓unblock_exit, ↓Ends_normal, ↓Ends_ret, ↓steps_nil, ↓steps_cons, ↓step_some, ↓st_move, ↓st_pick, ↓st_bin, ↓st_un, ↓st_conv, ↓st_addr, ↓st_ixA, ↓st_ixS, ↓st_fld, ↓st_ixV, ↓st_ixStr, ↓st_ext, ↓st_build, ↓st_bsl, ↓st_mkS, ↓st_mkfn, ↓st_len, ↓st_mn, ↓st_mx, ↓st_nilChk, ↓st_tas, ↓st_slc, ↓st_load, ↓st_call, ↓st_store, ↓st_box, ↓st_alloc, ↓st_mkR, ↓st_bslR, ↓st_nilR, ↓st_app, ↓st_callK, ↓stepsAt_some, ↓onSome_some, ↓onB_true, ↓onB_false, ↓onG_tt, ↓onG_tf, ↓onG_ft, ↓onG_ff, ↓onG_un, ↓optPut_some, ↓optMem_some, enterS, enterL, evalO, evalL, constAV, get_cons, get_nil, put_cons, put_nil, look_cons, look_nil, putD_some, clean_mk, freeze_mk, mapS, AV.mapR, frz1, del_cons, del_nil, kill1, keepS_cons, keepS_nil, keepL_cons, keepL_nil, memb_cons, memb_nil, binV, intV, unV, eqlV, pureV, readV, writeV, stepK, convV_i, addrV, toArgs, toArg, anyRs, isRs, hasSl, hasSl2, hasSl1, hasSl2L, fromRet, fromRetL, fromRet1, finR, resL, resV, toRets, toRet, lentOf, one, Nat.beq, Nat.blt, Nat.ble, shiftV_shr, shiftV_shl, IntKind.bits, fillV, partV, cellsOf, AV.flat, zrep, List.getElem?_cons_zero, List.getElem?_cons_succ, List.length_cons, List.length_nil, List.set_cons_zero, List.set_cons_succ, stepsAt_some, onSome_some, onB_true, onB_false, onG_tt, onG_tf, onG_ft, onG_ff, onG_un, optPut_some, optMem_some]
  refine onB_of (fun h => ?_) fun h => ?_
  · rw [tmod_eq] at *; split at * <;> (rw [i64_in _ (by omega)]; omega)
  · rw [tmod_eq] at *; split at * <;> omega

theorem rMod_q (a : Int) : FF tab 28 [.i .i64 a, .i .i64 8380417] = some ⟨.i .i64 (a % 8380417), []⟩ := by
  refine call_by (A := A28) rfl rfl ?_
  simp [A28, ↓W_seq, ↓W_skip, ↓W_ret, ↓W_exit, ↓W_reg, ↓W_cond, ↓W_block, ↓W_pre, ↓cleanO_some, ↓freezes_nil, ↓freezes_cons, ↓frzO_some, ↓andThen_normal, ↓andThen_ret, ↓andThen_exit, ↓unblock_normal, ↓unblock_ret, ↓unblock_exit, ↓Ends_normal, ↓Ends_ret, ↓steps_nil, ↓steps_cons, ↓step_some, ↓st_move, ↓st_pick, ↓st_bin, ↓st_un, ↓st_conv, ↓st_addr, ↓st_ixA, ↓st_ixS, ↓st_fld, ↓st_ixV, ↓st_ixStr, ↓st_ext, ↓st_build, ↓st_bsl, ↓st_mkS, ↓st_mkfn, ↓st_len, ↓st_mn, ↓st_mx, ↓st_nilChk, ↓st_tas, ↓st_slc, ↓st_load, ↓st_call, ↓st_store, ↓st_box, ↓st_alloc, ↓st_mkR, ↓st_bslR, ↓st_nilR, ↓st_app, ↓st_callK, ↓stepsAt_some, ↓onSome_some, ↓onB_true, ↓onB_false, ↓onG_tt, ↓onG_tf, ↓onG_ft, ↓onG_ff, ↓onG_un, ↓optPut_some, ↓optMem_some, enterS, enterL, evalO, evalL, constAV, get_cons, get_nil, put_cons, put_nil, look_cons, look_nil, putD_some, clean_mk, freeze_mk, mapS, AV.mapR, frz1, del_cons, del_nil, kill1, keepS_cons, keepS_nil, keepL_cons, keepL_nil, memb_cons, memb_nil, binV, intV, unV, eqlV, pureV, readV, writeV, stepK, convV_i, addrV, toArgs, toArg, anyRs, isRs, hasSl, hasSl2, hasSl1, hasSl2L, fromRet, fromRetL, fromRet1, finR, resL, resV, toRets, toRet, lentOf, one, Nat.beq, Nat.blt, Nat.ble, shiftV_shr, shiftV_shl, IntKind.bits, fillV, partV, cellsOf, AV.flat, zrep, List.getElem?_cons_zero, List.getElem?_cons_succ, List.length_cons, List.length_nil, List.set_cons_zero, List.set_cons_succ, stepsAt_some, onSome_some, onB_true, onB_false, onG_tt, onG_tf, onG_ft, onG_ff, onG_un, optPut_some, optMem_some]
  refine onB_of (fun h => ?_) fun h => ?_
  · rw [tmod_eq] at *; split at * <;> (rw [i64_in _ (by omega)]; omega)
  · rw [tmod_eq] at *; split at * <;> omega

theorem rmod (a : Int) : FF tab 23 [.i .i64 a] = some ⟨.i .i64 (a % 8380417), []⟩ := by
  refine call_by (A := A23) rfl rfl ?_
  simp [A23, rMod_q, ↓W_seq, ↓W_skip, ↓W_ret, ↓W_exit, ↓W_reg, ↓W_cond, ↓W_block, ↓W_pre, ↓cleanO_some, ↓freezes_nil, ↓freezes_cons, ↓frzO_some, ↓andThen_normal, ↓andThen_ret, ↓andThen_exit, ↓unblock_normal, ↓unblock_ret, ↓unblock_exit, ↓Ends_normal, ↓Ends_ret, ↓steps_nil, ↓steps_cons, ↓step_some, ↓st_move, ↓st_pick, ↓st_bin, ↓st_un, ↓st_conv, ↓st_addr, ↓st_ixA, ↓st_ixS, ↓st_fld, ↓st_ixV, ↓st_ixStr, ↓st_ext, ↓st_build, ↓st_bsl, ↓st_mkS, ↓st_mkfn, ↓st_len, ↓st_mn, ↓st_mx, ↓st_nilChk, ↓st_tas, ↓st_slc, ↓st_load, ↓st_call, ↓st_store, ↓st_box, ↓st_alloc, ↓st_mkR, ↓st_bslR, ↓st_nilR, ↓st_app, ↓st_callK, ↓stepsAt_some, ↓onSome_some, ↓onB_true, ↓onB_false, ↓onG_tt, ↓onG_tf, ↓onG_ft, ↓onG_ff, ↓onG_un, ↓optPut_some, ↓optMem_some, enterS, enterL, evalO, evalL, constAV, get_cons, get_nil, put_cons, put_nil, look_cons, look_nil, putD_some, clean_mk, freeze_mk, mapS, AV.mapR, frz1, del_cons, del_nil, kill1, keepS_cons, keepS_nil, keepL_cons, keepL_nil, memb_cons, memb_nil, binV, intV, unV, eqlV, pureV, readV, writeV, stepK, convV_i, addrV, toArgs, toArg, anyRs, isRs, hasSl, hasSl2, hasSl1, hasSl2L, fromRet, fromRetL, fromRet1, finR, resL, resV, toRets, toRet, lentOf, one, Nat.beq, Nat.blt, Nat.ble, shiftV_shr, shiftV_shl, IntKind.bits, fillV, partV, cellsOf, AV.flat, zrep, List.getElem?_cons_zero, List.getElem?_cons_succ, List.length_cons, List.length_nil, List.set_cons_zero, List.set_cons_succ, stepsAt_some, onSome_some, onB_true, onB_false, onG_tt, onG_tf, onG_ft, onG_ff, onG_un, optPut_some, optMem_some]

/-- From 0 to below a bound. -/
theorem Number (a m : Int) (hm : 0 < m) (hm2 : m ≤ 4611686018427387904) : FF tab 9 [.i .i64 a, .i .i64 m] = some ⟨.i .i64 (a % m), []⟩ := by
  refine call_by (A := A9) rfl rfl ?_
  have h0 : m ≠ 0 := by omega
  simp [A9, h0, ↓W_seq, ↓W_skip, ↓W_ret, ↓W_exit, ↓W_reg, ↓W_cond, ↓W_block, ↓W_pre, ↓cleanO_some, ↓freezes_nil, ↓freezes_cons, ↓frzO_some, ↓andThen_normal, ↓andThen_ret, ↓andThen_exit, ↓unblock_normal, ↓unblock_ret, ↓unblock_exit, ↓Ends_normal, ↓Ends_ret, ↓steps_nil, ↓steps_cons, ↓step_some, ↓st_move, ↓st_pick, ↓st_bin, ↓st_un, ↓st_conv, ↓st_addr, ↓st_ixA, ↓st_ixS, ↓st_fld, ↓st_ixV, ↓st_ixStr, ↓st_ext, ↓st_build, ↓st_bsl, ↓st_mkS, ↓st_mkfn, ↓st_len, ↓st_mn, ↓st_mx, ↓st_nilChk, ↓st_tas, ↓st_slc, ↓st_load, ↓st_call, ↓st_store, ↓st_box, ↓st_alloc, ↓st_mkR, ↓st_bslR, ↓st_nilR, ↓st_app, ↓st_callK, ↓stepsAt_some, ↓onSome_some, ↓onB_true, ↓onB_false, ↓onG_tt, ↓onG_tf, ↓onG_ft, ↓onG_ff, ↓onG_un, ↓optPut_some, ↓optMem_some, enterS, enterL, evalO, evalL, constAV, get_cons, get_nil, put_cons, put_nil, look_cons, look_nil, putD_some, clean_mk, freeze_mk, mapS, AV.mapR, frz1, del_cons, del_nil, kill1, keepS_cons, keepS_nil, keepL_cons, keepL_nil, memb_cons, memb_nil, binV, intV, unV, eqlV, pureV, readV, writeV, stepK, convV_i, addrV, toArgs, toArg, anyRs, isRs, hasSl, hasSl2, hasSl1, hasSl2L, fromRet, fromRetL, fromRet1, finR, resL, resV, toRets, toRet, lentOf, one, Nat.beq, Nat.blt, Nat.ble, shiftV_shr, shiftV_shl, IntKind.bits, fillV, partV, cellsOf, AV.flat, zrep, List.getElem?_cons_zero, List.getElem?_cons_succ, List.length_cons, List.length_nil, List.set_cons_zero, List.set_cons_succ, stepsAt_some, onSome_some, onB_true, onB_false, onG_tt, onG_tf, onG_ft, onG_ff, onG_un, optPut_some, optMem_some]
  have h1 := Int.emod_nonneg a h0
  have h2 := Int.emod_lt_of_pos a hm
  have h3 := Int.emod_nonneg (-a) h0
  have h4 := Int.emod_lt_of_pos (-a) hm
  have e : (-a) % m = if a % m = 0 then 0 else m - a % m := by
    split
    · rename_i h
      exact Int.emod_eq_zero_of_dvd (Int.dvd_neg.2 (Int.dvd_of_emod_eq_zero h))
    · rename_i hne
      have h5 : (-a) = (m - a % m) + m * (-(a / m) - 1) := by
        have := Int.mul_ediv_add_emod a m
        have e1 : m * (-(a / m) - 1) = -(m * (a / m)) - m := by rw [Int.mul_sub, Int.mul_neg]; omega
        omega
      rw [h5, Int.add_mul_emod_self_left]
      exact Int.emod_eq_of_lt (by omega) (by omega)
  refine onB_of (fun h => ?_) fun h => ?_
  · rw [tmod_eq] at *
    split at h
    · omega
    · rw [if_neg (by omega), i64_in _ (by split at e <;> omega)]
      split at e <;> omega
  · rw [tmod_eq] at *
    split at h
    · rw [if_pos (by omega)]
    · rw [if_neg (by omega)]
      split at e <;> omega

/-- Nearest to 0. -/
def nr (n m : Int) : Int := if n % m > m / 2 then n % m - m else n % m

theorem near (n m : Int) (hn : 0 ≤ n) (hm : 0 < m) (hm2 : m ≤ 1000000000) : FF tab 21 [.i .i64 n, .i .i64 m] = some ⟨.i .i64 (nr n m), []⟩ := by
  refine call_by (A := A21) rfl rfl ?_
  have h0 : m ≠ 0 := by omega
  have h1 := Int.emod_nonneg n h0
  have h2 := Int.emod_lt_of_pos n hm
  have e1 : n.tmod m = n % m := Int.tmod_eq_emod_of_nonneg hn
  have e2 : m.tdiv 2 = m / 2 := Int.tdiv_eq_ediv_of_nonneg (by omega)
  have e3 : IntKind.i64.wrap (m / 2) = m / 2 := i64_in _ (by omega)
  have e4 : IntKind.i64.wrap (n % m - m) = n % m - m := i64_in _ (by omega)
  simp [A21, h0, e1, e2, e3, e4, ↓W_seq, ↓W_skip, ↓W_ret, ↓W_exit, ↓W_reg, ↓W_cond, ↓W_block, ↓W_pre, ↓cleanO_some, ↓freezes_nil, ↓freezes_cons, ↓frzO_some, ↓andThen_normal, ↓andThen_ret, ↓andThen_exit, ↓unblock_normal, ↓unblock_ret, ↓unblock_exit, ↓Ends_normal, ↓Ends_ret, ↓steps_nil, ↓steps_cons, ↓step_some, ↓st_move, ↓st_pick, ↓st_bin, ↓st_un, ↓st_conv, ↓st_addr, ↓st_ixA, ↓st_ixS, ↓st_fld, ↓st_ixV, ↓st_ixStr, ↓st_ext, ↓st_build, ↓st_bsl, ↓st_mkS, ↓st_mkfn, ↓st_len, ↓st_mn, ↓st_mx, ↓st_nilChk, ↓st_tas, ↓st_slc, ↓st_load, ↓st_call, ↓st_store, ↓st_box, ↓st_alloc, ↓st_mkR, ↓st_bslR, ↓st_nilR, ↓st_app, ↓st_callK, ↓stepsAt_some, ↓onSome_some, ↓onB_true, ↓onB_false, ↓onG_tt, ↓onG_tf, ↓onG_ft, ↓onG_ff, ↓onG_un, ↓optPut_some, ↓optMem_some, enterS, enterL, evalO, evalL, constAV, get_cons, get_nil, put_cons, put_nil, look_cons, look_nil, putD_some, clean_mk, freeze_mk, mapS, AV.mapR, frz1, del_cons, del_nil, kill1, keepS_cons, keepS_nil, keepL_cons, keepL_nil, memb_cons, memb_nil, binV, intV, unV, eqlV, pureV, readV, writeV, stepK, convV_i, addrV, toArgs, toArg, anyRs, isRs, hasSl, hasSl2, hasSl1, hasSl2L, fromRet, fromRetL, fromRet1, finR, resL, resV, toRets, toRet, lentOf, one, Nat.beq, Nat.blt, Nat.ble, shiftV_shr, shiftV_shl, IntKind.bits, fillV, partV, cellsOf, AV.flat, zrep, List.getElem?_cons_zero, List.getElem?_cons_succ, List.length_cons, List.length_nil, List.set_cons_zero, List.set_cons_succ, stepsAt_some, onSome_some, onB_true, onB_false, onG_tt, onG_tf, onG_ft, onG_ff, onG_un, optPut_some, optMem_some]
  refine onB_of (fun h => ?_) fun h => ?_
  · simp [nr, h]
  · simp [nr, h]

theorem rnear (n m : Int) (hn : 0 ≤ n) (hm : 0 < m) (hm2 : m ≤ 1000000000) : FF tab 24 [.i .i64 n, .i .i64 m] = some ⟨.i .i64 (nr n m), []⟩ := by
  refine call_by (A := A24) rfl rfl ?_
  have h0 : m ≠ 0 := by omega
  have h1 := Int.emod_nonneg n h0
  have h2 := Int.emod_lt_of_pos n hm
  have e1 : n.tmod m = n % m := Int.tmod_eq_emod_of_nonneg hn
  have e2 : m.tdiv 2 = m / 2 := Int.tdiv_eq_ediv_of_nonneg (by omega)
  have e3 : IntKind.i64.wrap (m / 2) = m / 2 := i64_in _ (by omega)
  have e4 : IntKind.i64.wrap (n % m - m) = n % m - m := i64_in _ (by omega)
  simp [A24, h0, e1, e2, e3, e4, ↓W_seq, ↓W_skip, ↓W_ret, ↓W_exit, ↓W_reg, ↓W_cond, ↓W_block, ↓W_pre, ↓cleanO_some, ↓freezes_nil, ↓freezes_cons, ↓frzO_some, ↓andThen_normal, ↓andThen_ret, ↓andThen_exit, ↓unblock_normal, ↓unblock_ret, ↓unblock_exit, ↓Ends_normal, ↓Ends_ret, ↓steps_nil, ↓steps_cons, ↓step_some, ↓st_move, ↓st_pick, ↓st_bin, ↓st_un, ↓st_conv, ↓st_addr, ↓st_ixA, ↓st_ixS, ↓st_fld, ↓st_ixV, ↓st_ixStr, ↓st_ext, ↓st_build, ↓st_bsl, ↓st_mkS, ↓st_mkfn, ↓st_len, ↓st_mn, ↓st_mx, ↓st_nilChk, ↓st_tas, ↓st_slc, ↓st_load, ↓st_call, ↓st_store, ↓st_box, ↓st_alloc, ↓st_mkR, ↓st_bslR, ↓st_nilR, ↓st_app, ↓st_callK, ↓stepsAt_some, ↓onSome_some, ↓onB_true, ↓onB_false, ↓onG_tt, ↓onG_tf, ↓onG_ft, ↓onG_ff, ↓onG_un, ↓optPut_some, ↓optMem_some, enterS, enterL, evalO, evalL, constAV, get_cons, get_nil, put_cons, put_nil, look_cons, look_nil, putD_some, clean_mk, freeze_mk, mapS, AV.mapR, frz1, del_cons, del_nil, kill1, keepS_cons, keepS_nil, keepL_cons, keepL_nil, memb_cons, memb_nil, binV, intV, unV, eqlV, pureV, readV, writeV, stepK, convV_i, addrV, toArgs, toArg, anyRs, isRs, hasSl, hasSl2, hasSl1, hasSl2L, fromRet, fromRetL, fromRet1, finR, resL, resV, toRets, toRet, lentOf, one, Nat.beq, Nat.blt, Nat.ble, shiftV_shr, shiftV_shl, IntKind.bits, fillV, partV, cellsOf, AV.flat, zrep, List.getElem?_cons_zero, List.getElem?_cons_succ, List.length_cons, List.length_nil, List.set_cons_zero, List.set_cons_succ, stepsAt_some, onSome_some, onB_true, onB_false, onG_tt, onG_tf, onG_ft, onG_ff, onG_un, optPut_some, optMem_some]
  refine onB_of (fun h => ?_) fun h => ?_
  · simp [nr, h]
  · simp [nr, h]

/-- What Power tells. -/
def pw (a : Int) : Int × Int := ((a % 8380417 - nr (a % 8380417) 8192) / 8192, nr (a % 8380417) 8192)

theorem nr_bd {n m : Int} (hm : 0 < m) : -(m / 2) ≤ nr n m ∧ nr n m ≤ m / 2 ∧ nr n m ≤ n % m := by
  have h1 := Int.emod_nonneg n (show m ≠ 0 by omega)
  have h2 := Int.emod_lt_of_pos n hm
  unfold nr; split <;> omega

theorem nr_le {n m : Int} (hn : 0 ≤ n) (hm : 0 < m) : nr n m ≤ n := by
  have h1 := (nr_bd (n := n) hm).2.2
  have h2 : n % m ≤ n := by
    have := Int.mul_ediv_add_emod n m
    have h3 : 0 ≤ m * (n / m) := Int.mul_nonneg (by omega) (Int.ediv_nonneg hn (by omega))
    omega
  omega

theorem nr_dvd (n m : Int) : (n - nr n m) % m = 0 := by
  unfold nr
  split
  · rw [show n - (n % m - m) = m + (n - n % m) by omega, Int.add_emod_left]
    exact Int.emod_eq_zero_of_dvd (Int.dvd_self_sub_emod)
  · exact Int.emod_eq_zero_of_dvd (Int.dvd_self_sub_emod)

theorem Power (a : Int) : FF tab 10 [.i .i64 a] = some ⟨.tp [.i .i64 (pw a).1, .i .i64 (pw a).2], []⟩ := by
  refine call_by (A := A10) rfl rfl ?_
  have hn := near (a % 8380417) 8192 (by omega) (by omega) (by omega)
  have hb := nr_bd (n := a % 8380417) (m := 8192) (by omega)
  have e1 : IntKind.i64.wrap (a % 8380417 - nr (a % 8380417) 8192) = a % 8380417 - nr (a % 8380417) 8192 := i64_in _ (by omega)
  simp [A10, Mod_q, hn, e1, ↓W_seq, ↓W_skip, ↓W_ret, ↓W_exit, ↓W_reg, ↓W_cond, ↓W_block, ↓W_pre, ↓cleanO_some, ↓freezes_nil, ↓freezes_cons, ↓frzO_some, ↓andThen_normal, ↓andThen_ret, ↓andThen_exit, ↓unblock_normal, ↓unblock_ret, ↓unblock_exit, ↓Ends_normal, ↓Ends_ret, ↓steps_nil, ↓steps_cons, ↓step_some, ↓st_move, ↓st_pick, ↓st_bin, ↓st_un, ↓st_conv, ↓st_addr, ↓st_ixA, ↓st_ixS, ↓st_fld, ↓st_ixV, ↓st_ixStr, ↓st_ext, ↓st_build, ↓st_bsl, ↓st_mkS, ↓st_mkfn, ↓st_len, ↓st_mn, ↓st_mx, ↓st_nilChk, ↓st_tas, ↓st_slc, ↓st_load, ↓st_call, ↓st_store, ↓st_box, ↓st_alloc, ↓st_mkR, ↓st_bslR, ↓st_nilR, ↓st_app, ↓st_callK, ↓stepsAt_some, ↓onSome_some, ↓onB_true, ↓onB_false, ↓onG_tt, ↓onG_tf, ↓onG_ft, ↓onG_ff, ↓onG_un, ↓optPut_some, ↓optMem_some, enterS, enterL, evalO, evalL, constAV, get_cons, get_nil, put_cons, put_nil, look_cons, look_nil, putD_some, clean_mk, freeze_mk, mapS, AV.mapR, frz1, del_cons, del_nil, kill1, keepS_cons, keepS_nil, keepL_cons, keepL_nil, memb_cons, memb_nil, binV, intV, unV, eqlV, pureV, readV, writeV, stepK, convV_i, addrV, toArgs, toArg, anyRs, isRs, hasSl, hasSl2, hasSl1, hasSl2L, fromRet, fromRetL, fromRet1, finR, resL, resV, toRets, toRet, lentOf, one, Nat.beq, Nat.blt, Nat.ble, shiftV_shr, shiftV_shl, IntKind.bits, fillV, partV, cellsOf, AV.flat, zrep, List.getElem?_cons_zero, List.getElem?_cons_succ, List.length_cons, List.length_nil, List.set_cons_zero, List.set_cons_succ, stepsAt_some, onSome_some, onB_true, onB_false, onG_tt, onG_tf, onG_ft, onG_ff, onG_un, optPut_some, optMem_some]
  exact ⟨rfl, rfl⟩

theorem first : FF tab 7 [] = some ⟨.b true, []⟩ := by
  refine call_by (A := A7) rfl rfl ?_
  simp [A7, Power, show (pw 4097).1 = 1 from rfl, show (pw 4097).2 = -4095 from rfl, ↓W_seq, ↓W_skip, ↓W_ret, ↓W_exit, ↓W_reg, ↓W_cond, ↓W_block, ↓W_pre, ↓cleanO_some, ↓freezes_nil, ↓freezes_cons, ↓frzO_some, ↓andThen_normal, ↓andThen_ret, ↓andThen_exit, ↓unblock_normal, ↓unblock_ret, ↓unblock_exit, ↓Ends_normal, ↓Ends_ret, ↓steps_nil, ↓steps_cons, ↓step_some, ↓st_move, ↓st_pick, ↓st_bin, ↓st_un, ↓st_conv, ↓st_addr, ↓st_ixA, ↓st_ixS, ↓st_fld, ↓st_ixV, ↓st_ixStr, ↓st_ext, ↓st_build, ↓st_bsl, ↓st_mkS, ↓st_mkfn, ↓st_len, ↓st_mn, ↓st_mx, ↓st_nilChk, ↓st_tas, ↓st_slc, ↓st_load, ↓st_call, ↓st_store, ↓st_box, ↓st_alloc, ↓st_mkR, ↓st_bslR, ↓st_nilR, ↓st_app, ↓st_callK, ↓stepsAt_some, ↓onSome_some, ↓onB_true, ↓onB_false, ↓onG_tt, ↓onG_tf, ↓onG_ft, ↓onG_ff, ↓onG_un, ↓optPut_some, ↓optMem_some, enterS, enterL, evalO, evalL, constAV, get_cons, get_nil, put_cons, put_nil, look_cons, look_nil, putD_some, clean_mk, freeze_mk, mapS, AV.mapR, frz1, del_cons, del_nil, kill1, keepS_cons, keepS_nil, keepL_cons, keepL_nil, memb_cons, memb_nil, binV, intV, unV, eqlV, pureV, readV, writeV, stepK, convV_i, addrV, toArgs, toArg, anyRs, isRs, hasSl, hasSl2, hasSl1, hasSl2L, fromRet, fromRetL, fromRet1, finR, resL, resV, toRets, toRet, lentOf, one, Nat.beq, Nat.blt, Nat.ble, shiftV_shr, shiftV_shl, IntKind.bits, fillV, partV, cellsOf, AV.flat, zrep, List.getElem?_cons_zero, List.getElem?_cons_succ, List.length_cons, List.length_nil, List.set_cons_zero, List.set_cons_succ, stepsAt_some, onSome_some, onB_true, onB_false, onG_tt, onG_tf, onG_ft, onG_ff, onG_un, optPut_some, optMem_some]

theorem gamma (k : Int) : ∃ g, FF tab 8 [.i .i64 k] = some ⟨.i .i64 g, []⟩ ∧ (g = 95232 ∨ g = 261888) := by
  have hk : k % 2 = 0 ∨ k % 2 = 1 := by omega
  rcases hk with e | e
  · refine ⟨95232, call_by (A := A8) rfl rfl ?_, .inl rfl⟩
    simp [A8, Number k 2 (by omega) (by omega), e, ↓W_seq, ↓W_skip, ↓W_ret, ↓W_exit, ↓W_reg, ↓W_cond, ↓W_block, ↓W_pre, ↓cleanO_some, ↓freezes_nil, ↓freezes_cons, ↓frzO_some, ↓andThen_normal, ↓andThen_ret, ↓andThen_exit, ↓unblock_normal, ↓unblock_ret, ↓unblock_exit, ↓Ends_normal, ↓Ends_ret, ↓steps_nil, ↓steps_cons, ↓step_some, ↓st_move, ↓st_pick, ↓st_bin, ↓st_un, ↓st_conv, ↓st_addr, ↓st_ixA, ↓st_ixS, ↓st_fld, ↓st_ixV, ↓st_ixStr, ↓st_ext, ↓st_build, ↓st_bsl, ↓st_mkS, ↓st_mkfn, ↓st_len, ↓st_mn, ↓st_mx, ↓st_nilChk, ↓st_tas, ↓st_slc, ↓st_load, ↓st_call, ↓st_store, ↓st_box, ↓st_alloc, ↓st_mkR, ↓st_bslR, ↓st_nilR, ↓st_app, ↓st_callK, ↓stepsAt_some, ↓onSome_some, ↓onB_true, ↓onB_false, ↓onG_tt, ↓onG_tf, ↓onG_ft, ↓onG_ff, ↓onG_un, ↓optPut_some, ↓optMem_some, enterS, enterL, evalO, evalL, constAV, get_cons, get_nil, put_cons, put_nil, look_cons, look_nil, putD_some, clean_mk, freeze_mk, mapS, AV.mapR, frz1, del_cons, del_nil, kill1, keepS_cons, keepS_nil, keepL_cons, keepL_nil, memb_cons, memb_nil, binV, intV, unV, eqlV, pureV, readV, writeV, stepK, convV_i, addrV, toArgs, toArg, anyRs, isRs, hasSl, hasSl2, hasSl1, hasSl2L, fromRet, fromRetL, fromRet1, finR, resL, resV, toRets, toRet, lentOf, one, Nat.beq, Nat.blt, Nat.ble, shiftV_shr, shiftV_shl, IntKind.bits, fillV, partV, cellsOf, AV.flat, zrep, List.getElem?_cons_zero, List.getElem?_cons_succ, List.length_cons, List.length_nil, List.set_cons_zero, List.set_cons_succ, stepsAt_some, onSome_some, onB_true, onB_false, onG_tt, onG_tf, onG_ft, onG_ff, onG_un, optPut_some, optMem_some]
  · refine ⟨261888, call_by (A := A8) rfl rfl ?_, .inr rfl⟩
    simp [A8, Number k 2 (by omega) (by omega), e, ↓W_seq, ↓W_skip, ↓W_ret, ↓W_exit, ↓W_reg, ↓W_cond, ↓W_block, ↓W_pre, ↓cleanO_some, ↓freezes_nil, ↓freezes_cons, ↓frzO_some, ↓andThen_normal, ↓andThen_ret, ↓andThen_exit, ↓unblock_normal, ↓unblock_ret, ↓unblock_exit, ↓Ends_normal, ↓Ends_ret, ↓steps_nil, ↓steps_cons, ↓step_some, ↓st_move, ↓st_pick, ↓st_bin, ↓st_un, ↓st_conv, ↓st_addr, ↓st_ixA, ↓st_ixS, ↓st_fld, ↓st_ixV, ↓st_ixStr, ↓st_ext, ↓st_build, ↓st_bsl, ↓st_mkS, ↓st_mkfn, ↓st_len, ↓st_mn, ↓st_mx, ↓st_nilChk, ↓st_tas, ↓st_slc, ↓st_load, ↓st_call, ↓st_store, ↓st_box, ↓st_alloc, ↓st_mkR, ↓st_bslR, ↓st_nilR, ↓st_app, ↓st_callK, ↓stepsAt_some, ↓onSome_some, ↓onB_true, ↓onB_false, ↓onG_tt, ↓onG_tf, ↓onG_ft, ↓onG_ff, ↓onG_un, ↓optPut_some, ↓optMem_some, enterS, enterL, evalO, evalL, constAV, get_cons, get_nil, put_cons, put_nil, look_cons, look_nil, putD_some, clean_mk, freeze_mk, mapS, AV.mapR, frz1, del_cons, del_nil, kill1, keepS_cons, keepS_nil, keepL_cons, keepL_nil, memb_cons, memb_nil, binV, intV, unV, eqlV, pureV, readV, writeV, stepK, convV_i, addrV, toArgs, toArg, anyRs, isRs, hasSl, hasSl2, hasSl1, hasSl2L, fromRet, fromRetL, fromRet1, finR, resL, resV, toRets, toRet, lentOf, one, Nat.beq, Nat.blt, Nat.ble, shiftV_shr, shiftV_shl, IntKind.bits, fillV, partV, cellsOf, AV.flat, zrep, List.getElem?_cons_zero, List.getElem?_cons_succ, List.length_cons, List.length_nil, List.set_cons_zero, List.set_cons_succ, stepsAt_some, onSome_some, onB_true, onB_false, onG_tt, onG_tf, onG_ft, onG_ff, onG_un, optPut_some, optMem_some]

theorem fair {g : Int} (h : g = 95232 ∨ g = 261888) : FF tab 22 [.i .i64 g] = some ⟨.b true, []⟩ := by
  refine call_by (A := A22) rfl rfl ?_
  rcases h with rfl | rfl <;> simp [A22, ↓W_seq, ↓W_skip, ↓W_ret, ↓W_exit, ↓W_reg, ↓W_cond, ↓W_block, ↓W_pre, ↓cleanO_some, ↓freezes_nil, ↓freezes_cons, ↓frzO_some, ↓andThen_normal, ↓andThen_ret, ↓andThen_exit, ↓unblock_normal, ↓unblock_ret, ↓unblock_exit, ↓Ends_normal, ↓Ends_ret, ↓steps_nil, ↓steps_cons, ↓step_some, ↓st_move, ↓st_pick, ↓st_bin, ↓st_un, ↓st_conv, ↓st_addr, ↓st_ixA, ↓st_ixS, ↓st_fld, ↓st_ixV, ↓st_ixStr, ↓st_ext, ↓st_build, ↓st_bsl, ↓st_mkS, ↓st_mkfn, ↓st_len, ↓st_mn, ↓st_mx, ↓st_nilChk, ↓st_tas, ↓st_slc, ↓st_load, ↓st_call, ↓st_store, ↓st_box, ↓st_alloc, ↓st_mkR, ↓st_bslR, ↓st_nilR, ↓st_app, ↓st_callK, ↓stepsAt_some, ↓onSome_some, ↓onB_true, ↓onB_false, ↓onG_tt, ↓onG_tf, ↓onG_ft, ↓onG_ff, ↓onG_un, ↓optPut_some, ↓optMem_some, enterS, enterL, evalO, evalL, constAV, get_cons, get_nil, put_cons, put_nil, look_cons, look_nil, putD_some, clean_mk, freeze_mk, mapS, AV.mapR, frz1, del_cons, del_nil, kill1, keepS_cons, keepS_nil, keepL_cons, keepL_nil, memb_cons, memb_nil, binV, intV, unV, eqlV, pureV, readV, writeV, stepK, convV_i, addrV, toArgs, toArg, anyRs, isRs, hasSl, hasSl2, hasSl1, hasSl2L, fromRet, fromRetL, fromRet1, finR, resL, resV, toRets, toRet, lentOf, one, Nat.beq, Nat.blt, Nat.ble, shiftV_shr, shiftV_shl, IntKind.bits, fillV, partV, cellsOf, AV.flat, zrep, List.getElem?_cons_zero, List.getElem?_cons_succ, List.length_cons, List.length_nil, List.set_cons_zero, List.set_cons_succ, stepsAt_some, onSome_some, onB_true, onB_false, onG_tt, onG_tf, onG_ft, onG_ff, onG_un, optPut_some, optMem_some]

/-- What Split tells of a gamma. -/
def sp (a g : Int) : Int × Int :=
  if a % 8380417 - nr (a % 8380417) (2 * g) = 8380416 then (0, nr (a % 8380417) (2 * g) - 1)
  else ((a % 8380417 - nr (a % 8380417) (2 * g)) / (2 * g), nr (a % 8380417) (2 * g))

theorem Split (a : Int) {g : Int} (h : g = 95232 ∨ g = 261888) : FF tab 11 [.i .i64 a, .i .i64 g] = some ⟨.tp [.i .i64 (sp a g).1, .i .i64 (sp a g).2], []⟩ := by
  refine call_by (A := A11) rfl rfl ?_
  have hg : 95232 ≤ g ∧ g ≤ 261888 := by omega
  have hn := near (a % 8380417) (2 * g) (by omega) (by omega) (by omega)
  have hb := nr_bd (n := a % 8380417) (m := 2 * g) (by omega)
  have hl := nr_le (n := a % 8380417) (m := 2 * g) (by omega) (by omega)
  have e0 : IntKind.i64.wrap (2 * g) = 2 * g := i64_in _ (by omega)
  have e1 : IntKind.i64.wrap (a % 8380417 - nr (a % 8380417) (2 * g)) = a % 8380417 - nr (a % 8380417) (2 * g) := i64_in _ (by omega)
  have e2 : IntKind.i64.wrap (nr (a % 8380417) (2 * g) - 1) = nr (a % 8380417) (2 * g) - 1 := i64_in _ (by omega)
  have e3 : (a % 8380417 - nr (a % 8380417) (2 * g)).tdiv (2 * g) = (a % 8380417 - nr (a % 8380417) (2 * g)) / (2 * g) := Int.tdiv_eq_ediv_of_nonneg (by omega)
  have e4 : IntKind.i64.wrap ((a % 8380417 - nr (a % 8380417) (2 * g)) / (2 * g)) = (a % 8380417 - nr (a % 8380417) (2 * g)) / (2 * g) := by
    have h1 : 0 ≤ (a % 8380417 - nr (a % 8380417) (2 * g)) / (2 * g) := Int.ediv_nonneg (by omega) (by omega)
    have h2 : (a % 8380417 - nr (a % 8380417) (2 * g)) / (2 * g) ≤ a % 8380417 - nr (a % 8380417) (2 * g) := Int.ediv_le_self _ (by omega)
    exact i64_in _ (by omega)
  have hg0 : ¬ 2 * g = 0 := by omega
  simp [A11, fair h, Mod_q, hn, e0, e1, e2, e3, e4, hg0, ↓W_seq, ↓W_skip, ↓W_ret, ↓W_exit, ↓W_reg, ↓W_cond, ↓W_block, ↓W_pre, ↓cleanO_some, ↓freezes_nil, ↓freezes_cons, ↓frzO_some, ↓andThen_normal, ↓andThen_ret, ↓andThen_exit, ↓unblock_normal, ↓unblock_ret, ↓unblock_exit, ↓Ends_normal, ↓Ends_ret, ↓steps_nil, ↓steps_cons, ↓step_some, ↓st_move, ↓st_pick, ↓st_bin, ↓st_un, ↓st_conv, ↓st_addr, ↓st_ixA, ↓st_ixS, ↓st_fld, ↓st_ixV, ↓st_ixStr, ↓st_ext, ↓st_build, ↓st_bsl, ↓st_mkS, ↓st_mkfn, ↓st_len, ↓st_mn, ↓st_mx, ↓st_nilChk, ↓st_tas, ↓st_slc, ↓st_load, ↓st_call, ↓st_store, ↓st_box, ↓st_alloc, ↓st_mkR, ↓st_bslR, ↓st_nilR, ↓st_app, ↓st_callK, ↓stepsAt_some, ↓onSome_some, ↓onB_true, ↓onB_false, ↓onG_tt, ↓onG_tf, ↓onG_ft, ↓onG_ff, ↓onG_un, ↓optPut_some, ↓optMem_some, enterS, enterL, evalO, evalL, constAV, get_cons, get_nil, put_cons, put_nil, look_cons, look_nil, putD_some, clean_mk, freeze_mk, mapS, AV.mapR, frz1, del_cons, del_nil, kill1, keepS_cons, keepS_nil, keepL_cons, keepL_nil, memb_cons, memb_nil, binV, intV, unV, eqlV, pureV, readV, writeV, stepK, convV_i, addrV, toArgs, toArg, anyRs, isRs, hasSl, hasSl2, hasSl1, hasSl2L, fromRet, fromRetL, fromRet1, finR, resL, resV, toRets, toRet, lentOf, one, Nat.beq, Nat.blt, Nat.ble, shiftV_shr, shiftV_shl, IntKind.bits, fillV, partV, cellsOf, AV.flat, zrep, List.getElem?_cons_zero, List.getElem?_cons_succ, List.length_cons, List.length_nil, List.set_cons_zero, List.set_cons_succ, stepsAt_some, onSome_some, onB_true, onB_false, onG_tt, onG_tf, onG_ft, onG_ff, onG_un, optPut_some, optMem_some]
  refine onB_of (fun h => ?_) fun h => ?_
  · simp [sp, h]
  · simp [sp, h]

theorem Power_facts {n : Int} (h0 : 0 ≤ n) (h1 : n < 8380417) : ∃ p r, FF tab 10 [.i .i64 n] = some ⟨.tp [.i .i64 p, .i .i64 r], []⟩ ∧ p * 8192 + r = n ∧ -4095 ≤ r ∧ r ≤ 4096 ∧ 0 ≤ p ∧ p < 1024 := by
  refine ⟨_, _, Power n, ?_⟩
  have e : n % 8380417 = n := Int.emod_eq_of_lt h0 h1
  simp only [pw, nr, e]
  split <;> omega

theorem Split_facts {n g : Int} (h0 : 0 ≤ n) (h1 : n < 8380417) (h : g = 95232 ∨ g = 261888) : ∃ x y, (∀ z, z % 8380417 = n → FF tab 11 [.i .i64 z, .i .i64 g] = some ⟨.tp [.i .i64 x, .i .i64 y], []⟩) ∧
    0 ≤ x ∧ x < 8380416 / (2 * g) ∧ (x * 2 * g + y - n) % 8380417 = 0 ∧ -g ≤ y ∧ y ≤ g := by
  refine ⟨(sp n g).1, (sp n g).2, fun z hz => ?_, ?_⟩
  · have e : sp z g = sp n g := by
      have e : n % 8380417 = n := Int.emod_eq_of_lt h0 h1
      simp only [sp, hz, e]
    rw [Split z h, e]
  · have e : n % 8380417 = n := Int.emod_eq_of_lt h0 h1
    rcases h with rfl | rfl
    · simp only [sp, nr, e]
      split <;> split <;> simp only <;> omega
    · simp only [sp, nr, e]
      split <;> split <;> simp only <;> omega

set_option maxHeartbeats 4000000 in
theorem HintParts (a k : Int) : FF tab 3 [.i .i64 a, .i .i64 k] = some ⟨.b true, []⟩ := by
  obtain ⟨g, hg, hgs⟩ := gamma k
  obtain ⟨n, hn⟩ : ∃ n, n = a % 8380417 := ⟨_, rfl⟩
  have hN := Number a 8380417 (by omega) (by omega)
  rw [← hn] at hN
  have h0 : 0 ≤ n := by omega
  have h1 : n < 8380417 := by omega
  obtain ⟨p, r, hP, p1, p2, p3, p4, p5⟩ := Power_facts h0 h1
  obtain ⟨x, y, hS, s1, s2, s3, s4, s5⟩ := Split_facts h0 h1 hgs
  have hS1 := hS n (by omega)
  have hS2 := hS (n - 8380417) (by omega)
  clear hS
  refine call_by (A := A3) rfl rfl ?_
  rcases hgs with rfl | rfl
  · have c1 : (x * 2 * 95232 + y - n).tmod 8380417 = 0 := by rw [tmod_eq]; split <;> omega
    have c2 : Int.tdiv 8380416 190464 = 44 := rfl
    have s2' : x < 44 := by omega
    simp (maxSteps := 1000000) (disch := omega) [A3, first, hg, hN, hP, hS1, hS2, i64_in, c1, c2, p1, p2, p3, p4, p5, s1, s2', s4, s5, ↓W_seq, ↓W_skip, ↓W_ret, ↓W_exit, ↓W_reg, ↓W_cond, ↓W_block, ↓W_pre, ↓cleanO_some, ↓freezes_nil, ↓freezes_cons, ↓frzO_some, ↓andThen_normal, ↓andThen_ret, ↓andThen_exit, ↓unblock_normal, ↓unblock_ret, ↓unblock_exit, ↓Ends_normal, ↓Ends_ret, ↓steps_nil, ↓steps_cons, ↓step_some, ↓st_move, ↓st_pick, ↓st_bin, ↓st_un, ↓st_conv, ↓st_addr, ↓st_ixA, ↓st_ixS, ↓st_fld, ↓st_ixV, ↓st_ixStr, ↓st_ext, ↓st_build, ↓st_bsl, ↓st_mkS, ↓st_mkfn, ↓st_len, ↓st_mn, ↓st_mx, ↓st_nilChk, ↓st_tas, ↓st_slc, ↓st_load, ↓st_call, ↓st_store, ↓st_box, ↓st_alloc, ↓st_mkR, ↓st_bslR, ↓st_nilR, ↓st_app, ↓st_callK, ↓stepsAt_some, ↓onSome_some, ↓onB_true, ↓onB_false, ↓onG_tt, ↓onG_tf, ↓onG_ft, ↓onG_ff, ↓onG_un, ↓optPut_some, ↓optMem_some, enterS, enterL, evalO, evalL, constAV, get_cons, get_nil, put_cons, put_nil, look_cons, look_nil, putD_some, clean_mk, freeze_mk, mapS, AV.mapR, frz1, del_cons, del_nil, kill1, keepS_cons, keepS_nil, keepL_cons, keepL_nil, memb_cons, memb_nil, binV, intV, unV, eqlV, pureV, readV, writeV, stepK, convV_i, addrV, toArgs, toArg, anyRs, isRs, hasSl, hasSl2, hasSl1, hasSl2L, fromRet, fromRetL, fromRet1, finR, resL, resV, toRets, toRet, lentOf, one, Nat.beq, Nat.blt, Nat.ble, shiftV_shr, shiftV_shl, IntKind.bits, fillV, partV, cellsOf, AV.flat, zrep, List.getElem?_cons_zero, List.getElem?_cons_succ, List.length_cons, List.length_nil, List.set_cons_zero, List.set_cons_succ, stepsAt_some, onSome_some, onB_true, onB_false, onG_tt, onG_tf, onG_ft, onG_ff, onG_un, optPut_some, optMem_some]
  · have c1 : (x * 2 * 261888 + y - n).tmod 8380417 = 0 := by rw [tmod_eq]; split <;> omega
    have c2 : Int.tdiv 8380416 523776 = 16 := rfl
    have s2' : x < 16 := by omega
    simp (maxSteps := 1000000) (disch := omega) [A3, first, hg, hN, hP, hS1, hS2, i64_in, c1, c2, p1, p2, p3, p4, p5, s1, s2', s4, s5, ↓W_seq, ↓W_skip, ↓W_ret, ↓W_exit, ↓W_reg, ↓W_cond, ↓W_block, ↓W_pre, ↓cleanO_some, ↓freezes_nil, ↓freezes_cons, ↓frzO_some, ↓andThen_normal, ↓andThen_ret, ↓andThen_exit, ↓unblock_normal, ↓unblock_ret, ↓unblock_exit, ↓Ends_normal, ↓Ends_ret, ↓steps_nil, ↓steps_cons, ↓step_some, ↓st_move, ↓st_pick, ↓st_bin, ↓st_un, ↓st_conv, ↓st_addr, ↓st_ixA, ↓st_ixS, ↓st_fld, ↓st_ixV, ↓st_ixStr, ↓st_ext, ↓st_build, ↓st_bsl, ↓st_mkS, ↓st_mkfn, ↓st_len, ↓st_mn, ↓st_mx, ↓st_nilChk, ↓st_tas, ↓st_slc, ↓st_load, ↓st_call, ↓st_store, ↓st_box, ↓st_alloc, ↓st_mkR, ↓st_bslR, ↓st_nilR, ↓st_app, ↓st_callK, ↓stepsAt_some, ↓onSome_some, ↓onB_true, ↓onB_false, ↓onG_tt, ↓onG_tf, ↓onG_ft, ↓onG_ff, ↓onG_un, ↓optPut_some, ↓optMem_some, enterS, enterL, evalO, evalL, constAV, get_cons, get_nil, put_cons, put_nil, look_cons, look_nil, putD_some, clean_mk, freeze_mk, mapS, AV.mapR, frz1, del_cons, del_nil, kill1, keepS_cons, keepS_nil, keepL_cons, keepL_nil, memb_cons, memb_nil, binV, intV, unV, eqlV, pureV, readV, writeV, stepK, convV_i, addrV, toArgs, toArg, anyRs, isRs, hasSl, hasSl2, hasSl1, hasSl2L, fromRet, fromRetL, fromRet1, finR, resL, resV, toRets, toRet, lentOf, one, Nat.beq, Nat.blt, Nat.ble, shiftV_shr, shiftV_shl, IntKind.bits, fillV, partV, cellsOf, AV.flat, zrep, List.getElem?_cons_zero, List.getElem?_cons_succ, List.length_cons, List.length_nil, List.set_cons_zero, List.set_cons_succ, stepsAt_some, onSome_some, onB_true, onB_false, onG_tt, onG_tf, onG_ft, onG_ff, onG_un, optPut_some, optMem_some]

end Zab.Ythfbehemcpghaaa
