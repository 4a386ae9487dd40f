/- The law ZqCenter: what its code answers. -/
import Derived.Test.YthfbehemcpghaaaDoorPow
namespace Zab.YthfbehemcpghaaaDoor
open Go
open Go.IntWalk (i64_in)
set_option maxRecDepth 100000
set_option linter.unusedSimpArgs false
set_option linter.unusedVariables false

set_option maxHeartbeats 4000000 in
theorem ZqCenter (k a : Int) : FF tab 5 [.i .i64 k, .i .i64 a] = some ⟨.b true, []⟩ := by
  have hK := Number k 7 (by omega) (by omega)
  have hk : k % 7 = 0 ∨ k % 7 = 1 ∨ k % 7 = 2 ∨ k % 7 = 3 ∨ k % 7 = 4 ∨ k % 7 = 5 ∨ k % 7 = 6 := by omega
  refine call_by (A := A5) rfl rfl ?_
  rcases hk with e | e | e | e | e | e | e
  · have hR : Right 17 := by unfold Right; omega
    have p1 := Center a hR
    have p2 := Sub 0 a hR
    have p3 := Center ((0 - a) % 17) hR
    have hd : (if (17 - 1 : Int) / 2 < (0 - a) % 17 % 17 then (0 - a) % 17 % 17 - 17 else (0 - a) % 17 % 17) = -(if (17 - 1 : Int) / 2 < a % 17 then a % 17 - 17 else a % 17) := by
      split <;> split <;> omega
    rw [hd] at p3
    have hc : (if (17 - 1 : Int) / 2 < a % 17 then a % 17 - 17 else a % 17) % 17 = a % 17 := by split <;> omega
    have h0 : -17 < 2 * (if (17 - 1 : Int) / 2 < a % 17 then a % 17 - 17 else a % 17) ∧ 2 * (if (17 - 1 : Int) / 2 < a % 17 then a % 17 - 17 else a % 17) < 17 := by split <;> omega
    generalize (if (17 - 1 : Int) / 2 < a % 17 then a % 17 - 17 else a % 17) = c at *
    generalize (0 - a) % 17 = s at *
    have p4 := Mod c hR
    rw [hc] at p4
    have p5 := Mod a hR
    have w1 : IntKind.i64.wrap (2 * c) = 2 * c := i64_in _ (by omega)
    have w2 : IntKind.i64.wrap (-2 * c) = -2 * c := i64_in _ (by omega)
    have w2' : IntKind.i64.wrap (-(2 * c)) = -(2 * c) := i64_in _ (by omega)
    have w3 : IntKind.i64.wrap (c + -c) = 0 := by rw [show c + -c = 0 by omega]; rfl
    have w4 : IntKind.i64.wrap 0 = 0 := rfl
    have b1 : 2 * c < 17 := by omega
    have b2 : -2 * c < 17 := by omega
    have b3 : -(2 * c) < 17 := by omega
    simp (maxSteps := 1000000) [A5, first, Primes, hK, e, p1, p2, p3, p4, p5, w1, w2, w2', w3, w4, b1, b2, b3, ↓W_seq, ↓W_skip, ↓W_ret, ↓W_exit, ↓W_reg, ↓W_cond, ↓W_block, ↓W_pre, ↓cleanO_some, ↓freezes_nil, ↓freezes_cons, ↓frzO_some, ↓andThen_normal, ↓andThen_ret, ↓andThen_exit, ↓unblock_normal, ↓unblock_ret, ↓unblock_exit, ↓Ends_normal, ↓Ends_ret, ↓steps_nil, ↓steps_cons, ↓step_some, ↓st_move, ↓st_pick, ↓st_bin, ↓st_un, ↓st_conv, ↓st_addr, ↓st_ixA, ↓st_ixS, ↓st_fld, ↓st_ixV, ↓st_ixStr, ↓st_ext, ↓st_build, ↓st_bsl, ↓st_mkS, ↓st_mkfn, ↓st_len, ↓st_mn, ↓st_mx, ↓st_nilChk, ↓st_tas, ↓st_slc, ↓st_load, ↓st_call, ↓st_store, ↓st_box, ↓st_alloc, ↓st_mkR, ↓st_bslR, ↓st_nilR, ↓st_app, ↓st_callK, ↓stepsAt_some, ↓onSome_some, ↓onB_true, ↓onB_false, ↓onG_tt, ↓onG_tf, ↓onG_ft, ↓onG_ff, ↓onG_un, ↓optPut_some, ↓optMem_some, enterS, enterL, evalO, evalL, constAV, get_cons, get_nil, put_cons, put_nil, look_cons, look_nil, putD_some, clean_mk, freeze_mk, mapS, AV.mapR, frz1, del_cons, del_nil, kill1, keepS_cons, keepS_nil, keepL_cons, keepL_nil, memb_cons, memb_nil, binV, intV, unV, eqlV, pureV, readV, writeV, stepK, convV_i, addrV, toArgs, toArg, anyRs, isRs, hasSl, hasSl2, hasSl1, hasSl2L, fromRet, fromRetL, fromRet1, finR, resL, resV, toRets, toRet, lentOf, one, Nat.beq, Nat.blt, Nat.ble, shiftV_shr, shiftV_shl, IntKind.bits, fillV, partV, cellsOf, AV.flat, zrep, List.getElem?_cons_zero, List.getElem?_cons_succ, List.length_cons, List.length_nil, List.set_cons_zero, List.set_cons_succ, stepsAt_some, onSome_some, onB_true, onB_false, onG_tt, onG_tf, onG_ft, onG_ff, onG_un, optPut_some, optMem_some]
  · have hR : Right 97 := by unfold Right; omega
    have p1 := Center a hR
    have p2 := Sub 0 a hR
    have p3 := Center ((0 - a) % 97) hR
    have hd : (if (97 - 1 : Int) / 2 < (0 - a) % 97 % 97 then (0 - a) % 97 % 97 - 97 else (0 - a) % 97 % 97) = -(if (97 - 1 : Int) / 2 < a % 97 then a % 97 - 97 else a % 97) := by
      split <;> split <;> omega
    rw [hd] at p3
    have hc : (if (97 - 1 : Int) / 2 < a % 97 then a % 97 - 97 else a % 97) % 97 = a % 97 := by split <;> omega
    have h0 : -97 < 2 * (if (97 - 1 : Int) / 2 < a % 97 then a % 97 - 97 else a % 97) ∧ 2 * (if (97 - 1 : Int) / 2 < a % 97 then a % 97 - 97 else a % 97) < 97 := by split <;> omega
    generalize (if (97 - 1 : Int) / 2 < a % 97 then a % 97 - 97 else a % 97) = c at *
    generalize (0 - a) % 97 = s at *
    have p4 := Mod c hR
    rw [hc] at p4
    have p5 := Mod a hR
    have w1 : IntKind.i64.wrap (2 * c) = 2 * c := i64_in _ (by omega)
    have w2 : IntKind.i64.wrap (-2 * c) = -2 * c := i64_in _ (by omega)
    have w2' : IntKind.i64.wrap (-(2 * c)) = -(2 * c) := i64_in _ (by omega)
    have w3 : IntKind.i64.wrap (c + -c) = 0 := by rw [show c + -c = 0 by omega]; rfl
    have w4 : IntKind.i64.wrap 0 = 0 := rfl
    have b1 : 2 * c < 97 := by omega
    have b2 : -2 * c < 97 := by omega
    have b3 : -(2 * c) < 97 := by omega
    simp (maxSteps := 1000000) [A5, first, Primes, hK, e, p1, p2, p3, p4, p5, w1, w2, w2', w3, w4, b1, b2, b3, ↓W_seq, ↓W_skip, ↓W_ret, ↓W_exit, ↓W_reg, ↓W_cond, ↓W_block, ↓W_pre, ↓cleanO_some, ↓freezes_nil, ↓freezes_cons, ↓frzO_some, ↓andThen_normal, ↓andThen_ret, ↓andThen_exit, ↓unblock_normal, ↓unblock_ret, ↓unblock_exit, ↓Ends_normal, ↓Ends_ret, ↓steps_nil, ↓steps_cons, ↓step_some, ↓st_move, ↓st_pick, ↓st_bin, ↓st_un, ↓st_conv, ↓st_addr, ↓st_ixA, ↓st_ixS, ↓st_fld, ↓st_ixV, ↓st_ixStr, ↓st_ext, ↓st_build, ↓st_bsl, ↓st_mkS, ↓st_mkfn, ↓st_len, ↓st_mn, ↓st_mx, ↓st_nilChk, ↓st_tas, ↓st_slc, ↓st_load, ↓st_call, ↓st_store, ↓st_box, ↓st_alloc, ↓st_mkR, ↓st_bslR, ↓st_nilR, ↓st_app, ↓st_callK, ↓stepsAt_some, ↓onSome_some, ↓onB_true, ↓onB_false, ↓onG_tt, ↓onG_tf, ↓onG_ft, ↓onG_ff, ↓onG_un, ↓optPut_some, ↓optMem_some, enterS, enterL, evalO, evalL, constAV, get_cons, get_nil, put_cons, put_nil, look_cons, look_nil, putD_some, clean_mk, freeze_mk, mapS, AV.mapR, frz1, del_cons, del_nil, kill1, keepS_cons, keepS_nil, keepL_cons, keepL_nil, memb_cons, memb_nil, binV, intV, unV, eqlV, pureV, readV, writeV, stepK, convV_i, addrV, toArgs, toArg, anyRs, isRs, hasSl, hasSl2, hasSl1, hasSl2L, fromRet, fromRetL, fromRet1, finR, resL, resV, toRets, toRet, lentOf, one, Nat.beq, Nat.blt, Nat.ble, shiftV_shr, shiftV_shl, IntKind.bits, fillV, partV, cellsOf, AV.flat, zrep, List.getElem?_cons_zero, List.getElem?_cons_succ, List.length_cons, List.length_nil, List.set_cons_zero, List.set_cons_succ, stepsAt_some, onSome_some, onB_true, onB_false, onG_tt, onG_tf, onG_ft, onG_ff, onG_un, optPut_some, optMem_some]
  · have hR : Right 257 := by unfold Right; omega
    have p1 := Center a hR
    have p2 := Sub 0 a hR
    have p3 := Center ((0 - a) % 257) hR
    have hd : (if (257 - 1 : Int) / 2 < (0 - a) % 257 % 257 then (0 - a) % 257 % 257 - 257 else (0 - a) % 257 % 257) = -(if (257 - 1 : Int) / 2 < a % 257 then a % 257 - 257 else a % 257) := by
      split <;> split <;> omega
    rw [hd] at p3
    have hc : (if (257 - 1 : Int) / 2 < a % 257 then a % 257 - 257 else a % 257) % 257 = a % 257 := by split <;> omega
    have h0 : -257 < 2 * (if (257 - 1 : Int) / 2 < a % 257 then a % 257 - 257 else a % 257) ∧ 2 * (if (257 - 1 : Int) / 2 < a % 257 then a % 257 - 257 else a % 257) < 257 := by split <;> omega
    generalize (if (257 - 1 : Int) / 2 < a % 257 then a % 257 - 257 else a % 257) = c at *
    generalize (0 - a) % 257 = s at *
    have p4 := Mod c hR
    rw [hc] at p4
    have p5 := Mod a hR
    have w1 : IntKind.i64.wrap (2 * c) = 2 * c := i64_in _ (by omega)
    have w2 : IntKind.i64.wrap (-2 * c) = -2 * c := i64_in _ (by omega)
    have w2' : IntKind.i64.wrap (-(2 * c)) = -(2 * c) := i64_in _ (by omega)
    have w3 : IntKind.i64.wrap (c + -c) = 0 := by rw [show c + -c = 0 by omega]; rfl
    have w4 : IntKind.i64.wrap 0 = 0 := rfl
    have b1 : 2 * c < 257 := by omega
    have b2 : -2 * c < 257 := by omega
    have b3 : -(2 * c) < 257 := by omega
    simp (maxSteps := 1000000) [A5, first, Primes, hK, e, p1, p2, p3, p4, p5, w1, w2, w2', w3, w4, b1, b2, b3, ↓W_seq, ↓W_skip, ↓W_ret, ↓W_exit, ↓W_reg, ↓W_cond, ↓W_block, ↓W_pre, ↓cleanO_some, ↓freezes_nil, ↓freezes_cons, ↓frzO_some, ↓andThen_normal, ↓andThen_ret, ↓andThen_exit, ↓unblock_normal, ↓unblock_ret, ↓unblock_exit, ↓Ends_normal, ↓Ends_ret, ↓steps_nil, ↓steps_cons, ↓step_some, ↓st_move, ↓st_pick, ↓st_bin, ↓st_un, ↓st_conv, ↓st_addr, ↓st_ixA, ↓st_ixS, ↓st_fld, ↓st_ixV, ↓st_ixStr, ↓st_ext, ↓st_build, ↓st_bsl, ↓st_mkS, ↓st_mkfn, ↓st_len, ↓st_mn, ↓st_mx, ↓st_nilChk, ↓st_tas, ↓st_slc, ↓st_load, ↓st_call, ↓st_store, ↓st_box, ↓st_alloc, ↓st_mkR, ↓st_bslR, ↓st_nilR, ↓st_app, ↓st_callK, ↓stepsAt_some, ↓onSome_some, ↓onB_true, ↓onB_false, ↓onG_tt, ↓onG_tf, ↓onG_ft, ↓onG_ff, ↓onG_un, ↓optPut_some, ↓optMem_some, enterS, enterL, evalO, evalL, constAV, get_cons, get_nil, put_cons, put_nil, look_cons, look_nil, putD_some, clean_mk, freeze_mk, mapS, AV.mapR, frz1, del_cons, del_nil, kill1, keepS_cons, keepS_nil, keepL_cons, keepL_nil, memb_cons, memb_nil, binV, intV, unV, eqlV, pureV, readV, writeV, stepK, convV_i, addrV, toArgs, toArg, anyRs, isRs, hasSl, hasSl2, hasSl1, hasSl2L, fromRet, fromRetL, fromRet1, finR, resL, resV, toRets, toRet, lentOf, one, Nat.beq, Nat.blt, Nat.ble, shiftV_shr, shiftV_shl, IntKind.bits, fillV, partV, cellsOf, AV.flat, zrep, List.getElem?_cons_zero, List.getElem?_cons_succ, List.length_cons, List.length_nil, List.set_cons_zero, List.set_cons_succ, stepsAt_some, onSome_some, onB_true, onB_false, onG_tt, onG_tf, onG_ft, onG_ff, onG_un, optPut_some, optMem_some]
  · have hR : Right 3329 := by unfold Right; omega
    have p1 := Center a hR
    have p2 := Sub 0 a hR
    have p3 := Center ((0 - a) % 3329) hR
    have hd : (if (3329 - 1 : Int) / 2 < (0 - a) % 3329 % 3329 then (0 - a) % 3329 % 3329 - 3329 else (0 - a) % 3329 % 3329) = -(if (3329 - 1 : Int) / 2 < a % 3329 then a % 3329 - 3329 else a % 3329) := by
      split <;> split <;> omega
    rw [hd] at p3
    have hc : (if (3329 - 1 : Int) / 2 < a % 3329 then a % 3329 - 3329 else a % 3329) % 3329 = a % 3329 := by split <;> omega
    have h0 : -3329 < 2 * (if (3329 - 1 : Int) / 2 < a % 3329 then a % 3329 - 3329 else a % 3329) ∧ 2 * (if (3329 - 1 : Int) / 2 < a % 3329 then a % 3329 - 3329 else a % 3329) < 3329 := by split <;> omega
    generalize (if (3329 - 1 : Int) / 2 < a % 3329 then a % 3329 - 3329 else a % 3329) = c at *
    generalize (0 - a) % 3329 = s at *
    have p4 := Mod c hR
    rw [hc] at p4
    have p5 := Mod a hR
    have w1 : IntKind.i64.wrap (2 * c) = 2 * c := i64_in _ (by omega)
    have w2 : IntKind.i64.wrap (-2 * c) = -2 * c := i64_in _ (by omega)
    have w2' : IntKind.i64.wrap (-(2 * c)) = -(2 * c) := i64_in _ (by omega)
    have w3 : IntKind.i64.wrap (c + -c) = 0 := by rw [show c + -c = 0 by omega]; rfl
    have w4 : IntKind.i64.wrap 0 = 0 := rfl
    have b1 : 2 * c < 3329 := by omega
    have b2 : -2 * c < 3329 := by omega
    have b3 : -(2 * c) < 3329 := by omega
    simp (maxSteps := 1000000) [A5, first, Primes, hK, e, p1, p2, p3, p4, p5, w1, w2, w2', w3, w4, b1, b2, b3, ↓W_seq, ↓W_skip, ↓W_ret, ↓W_exit, ↓W_reg, ↓W_cond, ↓W_block, ↓W_pre, ↓cleanO_some, ↓freezes_nil, ↓freezes_cons, ↓frzO_some, ↓andThen_normal, ↓andThen_ret, ↓andThen_exit, ↓unblock_normal, ↓unblock_ret, ↓unblock_exit, ↓Ends_normal, ↓Ends_ret, ↓steps_nil, ↓steps_cons, ↓step_some, ↓st_move, ↓st_pick, ↓st_bin, ↓st_un, ↓st_conv, ↓st_addr, ↓st_ixA, ↓st_ixS, ↓st_fld, ↓st_ixV, ↓st_ixStr, ↓st_ext, ↓st_build, ↓st_bsl, ↓st_mkS, ↓st_mkfn, ↓st_len, ↓st_mn, ↓st_mx, ↓st_nilChk, ↓st_tas, ↓st_slc, ↓st_load, ↓st_call, ↓st_store, ↓st_box, ↓st_alloc, ↓st_mkR, ↓st_bslR, ↓st_nilR, ↓st_app, ↓st_callK, ↓stepsAt_some, ↓onSome_some, ↓onB_true, ↓onB_false, ↓onG_tt, ↓onG_tf, ↓onG_ft, ↓onG_ff, ↓onG_un, ↓optPut_some, ↓optMem_some, enterS, enterL, evalO, evalL, constAV, get_cons, get_nil, put_cons, put_nil, look_cons, look_nil, putD_some, clean_mk, freeze_mk, mapS, AV.mapR, frz1, del_cons, del_nil, kill1, keepS_cons, keepS_nil, keepL_cons, keepL_nil, memb_cons, memb_nil, binV, intV, unV, eqlV, pureV, readV, writeV, stepK, convV_i, addrV, toArgs, toArg, anyRs, isRs, hasSl, hasSl2, hasSl1, hasSl2L, fromRet, fromRetL, fromRet1, finR, resL, resV, toRets, toRet, lentOf, one, Nat.beq, Nat.blt, Nat.ble, shiftV_shr, shiftV_shl, IntKind.bits, fillV, partV, cellsOf, AV.flat, zrep, List.getElem?_cons_zero, List.getElem?_cons_succ, List.length_cons, List.length_nil, List.set_cons_zero, List.set_cons_succ, stepsAt_some, onSome_some, onB_true, onB_false, onG_tt, onG_tf, onG_ft, onG_ff, onG_un, optPut_some, optMem_some]
  · have hR : Right 7681 := by unfold Right; omega
    have p1 := Center a hR
    have p2 := Sub 0 a hR
    have p3 := Center ((0 - a) % 7681) hR
    have hd : (if (7681 - 1 : Int) / 2 < (0 - a) % 7681 % 7681 then (0 - a) % 7681 % 7681 - 7681 else (0 - a) % 7681 % 7681) = -(if (7681 - 1 : Int) / 2 < a % 7681 then a % 7681 - 7681 else a % 7681) := by
      split <;> split <;> omega
    rw [hd] at p3
    have hc : (if (7681 - 1 : Int) / 2 < a % 7681 then a % 7681 - 7681 else a % 7681) % 7681 = a % 7681 := by split <;> omega
    have h0 : -7681 < 2 * (if (7681 - 1 : Int) / 2 < a % 7681 then a % 7681 - 7681 else a % 7681) ∧ 2 * (if (7681 - 1 : Int) / 2 < a % 7681 then a % 7681 - 7681 else a % 7681) < 7681 := by split <;> omega
    generalize (if (7681 - 1 : Int) / 2 < a % 7681 then a % 7681 - 7681 else a % 7681) = c at *
    generalize (0 - a) % 7681 = s at *
    have p4 := Mod c hR
    rw [hc] at p4
    have p5 := Mod a hR
    have w1 : IntKind.i64.wrap (2 * c) = 2 * c := i64_in _ (by omega)
    have w2 : IntKind.i64.wrap (-2 * c) = -2 * c := i64_in _ (by omega)
    have w2' : IntKind.i64.wrap (-(2 * c)) = -(2 * c) := i64_in _ (by omega)
    have w3 : IntKind.i64.wrap (c + -c) = 0 := by rw [show c + -c = 0 by omega]; rfl
    have w4 : IntKind.i64.wrap 0 = 0 := rfl
    have b1 : 2 * c < 7681 := by omega
    have b2 : -2 * c < 7681 := by omega
    have b3 : -(2 * c) < 7681 := by omega
    simp (maxSteps := 1000000) [A5, first, Primes, hK, e, p1, p2, p3, p4, p5, w1, w2, w2', w3, w4, b1, b2, b3, ↓W_seq, ↓W_skip, ↓W_ret, ↓W_exit, ↓W_reg, ↓W_cond, ↓W_block, ↓W_pre, ↓cleanO_some, ↓freezes_nil, ↓freezes_cons, ↓frzO_some, ↓andThen_normal, ↓andThen_ret, ↓andThen_exit, ↓unblock_normal, ↓unblock_ret, ↓unblock_exit, ↓Ends_normal, ↓Ends_ret, ↓steps_nil, ↓steps_cons, ↓step_some, ↓st_move, ↓st_pick, ↓st_bin, ↓st_un, ↓st_conv, ↓st_addr, ↓st_ixA, ↓st_ixS, ↓st_fld, ↓st_ixV, ↓st_ixStr, ↓st_ext, ↓st_build, ↓st_bsl, ↓st_mkS, ↓st_mkfn, ↓st_len, ↓st_mn, ↓st_mx, ↓st_nilChk, ↓st_tas, ↓st_slc, ↓st_load, ↓st_call, ↓st_store, ↓st_box, ↓st_alloc, ↓st_mkR, ↓st_bslR, ↓st_nilR, ↓st_app, ↓st_callK, ↓stepsAt_some, ↓onSome_some, ↓onB_true, ↓onB_false, ↓onG_tt, ↓onG_tf, ↓onG_ft, ↓onG_ff, ↓onG_un, ↓optPut_some, ↓optMem_some, enterS, enterL, evalO, evalL, constAV, get_cons, get_nil, put_cons, put_nil, look_cons, look_nil, putD_some, clean_mk, freeze_mk, mapS, AV.mapR, frz1, del_cons, del_nil, kill1, keepS_cons, keepS_nil, keepL_cons, keepL_nil, memb_cons, memb_nil, binV, intV, unV, eqlV, pureV, readV, writeV, stepK, convV_i, addrV, toArgs, toArg, anyRs, isRs, hasSl, hasSl2, hasSl1, hasSl2L, fromRet, fromRetL, fromRet1, finR, resL, resV, toRets, toRet, lentOf, one, Nat.beq, Nat.blt, Nat.ble, shiftV_shr, shiftV_shl, IntKind.bits, fillV, partV, cellsOf, AV.flat, zrep, List.getElem?_cons_zero, List.getElem?_cons_succ, List.length_cons, List.length_nil, List.set_cons_zero, List.set_cons_succ, stepsAt_some, onSome_some, onB_true, onB_false, onG_tt, onG_tf, onG_ft, onG_ff, onG_un, optPut_some, optMem_some]
  · have hR : Right 12289 := by unfold Right; omega
    have p1 := Center a hR
    have p2 := Sub 0 a hR
    have p3 := Center ((0 - a) % 12289) hR
    have hd : (if (12289 - 1 : Int) / 2 < (0 - a) % 12289 % 12289 then (0 - a) % 12289 % 12289 - 12289 else (0 - a) % 12289 % 12289) = -(if (12289 - 1 : Int) / 2 < a % 12289 then a % 12289 - 12289 else a % 12289) := by
      split <;> split <;> omega
    rw [hd] at p3
    have hc : (if (12289 - 1 : Int) / 2 < a % 12289 then a % 12289 - 12289 else a % 12289) % 12289 = a % 12289 := by split <;> omega
    have h0 : -12289 < 2 * (if (12289 - 1 : Int) / 2 < a % 12289 then a % 12289 - 12289 else a % 12289) ∧ 2 * (if (12289 - 1 : Int) / 2 < a % 12289 then a % 12289 - 12289 else a % 12289) < 12289 := by split <;> omega
    generalize (if (12289 - 1 : Int) / 2 < a % 12289 then a % 12289 - 12289 else a % 12289) = c at *
    generalize (0 - a) % 12289 = s at *
    have p4 := Mod c hR
    rw [hc] at p4
    have p5 := Mod a hR
    have w1 : IntKind.i64.wrap (2 * c) = 2 * c := i64_in _ (by omega)
    have w2 : IntKind.i64.wrap (-2 * c) = -2 * c := i64_in _ (by omega)
    have w2' : IntKind.i64.wrap (-(2 * c)) = -(2 * c) := i64_in _ (by omega)
    have w3 : IntKind.i64.wrap (c + -c) = 0 := by rw [show c + -c = 0 by omega]; rfl
    have w4 : IntKind.i64.wrap 0 = 0 := rfl
    have b1 : 2 * c < 12289 := by omega
    have b2 : -2 * c < 12289 := by omega
    have b3 : -(2 * c) < 12289 := by omega
    simp (maxSteps := 1000000) [A5, first, Primes, hK, e, p1, p2, p3, p4, p5, w1, w2, w2', w3, w4, b1, b2, b3, ↓W_seq, ↓W_skip, ↓W_ret, ↓W_exit, ↓W_reg, ↓W_cond, ↓W_block, ↓W_pre, ↓cleanO_some, ↓freezes_nil, ↓freezes_cons, ↓frzO_some, ↓andThen_normal, ↓andThen_ret, ↓andThen_exit, ↓unblock_normal, ↓unblock_ret, ↓unblock_exit, ↓Ends_normal, ↓Ends_ret, ↓steps_nil, ↓steps_cons, ↓step_some, ↓st_move, ↓st_pick, ↓st_bin, ↓st_un, ↓st_conv, ↓st_addr, ↓st_ixA, ↓st_ixS, ↓st_fld, ↓st_ixV, ↓st_ixStr, ↓st_ext, ↓st_build, ↓st_bsl, ↓st_mkS, ↓st_mkfn, ↓st_len, ↓st_mn, ↓st_mx, ↓st_nilChk, ↓st_tas, ↓st_slc, ↓st_load, ↓st_call, ↓st_store, ↓st_box, ↓st_alloc, ↓st_mkR, ↓st_bslR, ↓st_nilR, ↓st_app, ↓st_callK, ↓stepsAt_some, ↓onSome_some, ↓onB_true, ↓onB_false, ↓onG_tt, ↓onG_tf, ↓onG_ft, ↓onG_ff, ↓onG_un, ↓optPut_some, ↓optMem_some, enterS, enterL, evalO, evalL, constAV, get_cons, get_nil, put_cons, put_nil, look_cons, look_nil, putD_some, clean_mk, freeze_mk, mapS, AV.mapR, frz1, del_cons, del_nil, kill1, keepS_cons, keepS_nil, keepL_cons, keepL_nil, memb_cons, memb_nil, binV, intV, unV, eqlV, pureV, readV, writeV, stepK, convV_i, addrV, toArgs, toArg, anyRs, isRs, hasSl, hasSl2, hasSl1, hasSl2L, fromRet, fromRetL, fromRet1, finR, resL, resV, toRets, toRet, lentOf, one, Nat.beq, Nat.blt, Nat.ble, shiftV_shr, shiftV_shl, IntKind.bits, fillV, partV, cellsOf, AV.flat, zrep, List.getElem?_cons_zero, List.getElem?_cons_succ, List.length_cons, List.length_nil, List.set_cons_zero, List.set_cons_succ, stepsAt_some, onSome_some, onB_true, onB_false, onG_tt, onG_tf, onG_ft, onG_ff, onG_un, optPut_some, optMem_some]
  · have hR : Right 8380417 := by unfold Right; omega
    have p1 := Center a hR
    have p2 := Sub 0 a hR
    have p3 := Center ((0 - a) % 8380417) hR
    have hd : (if (8380417 - 1 : Int) / 2 < (0 - a) % 8380417 % 8380417 then (0 - a) % 8380417 % 8380417 - 8380417 else (0 - a) % 8380417 % 8380417) = -(if (8380417 - 1 : Int) / 2 < a % 8380417 then a % 8380417 - 8380417 else a % 8380417) := by
      split <;> split <;> omega
    rw [hd] at p3
    have hc : (if (8380417 - 1 : Int) / 2 < a % 8380417 then a % 8380417 - 8380417 else a % 8380417) % 8380417 = a % 8380417 := by split <;> omega
    have h0 : -8380417 < 2 * (if (8380417 - 1 : Int) / 2 < a % 8380417 then a % 8380417 - 8380417 else a % 8380417) ∧ 2 * (if (8380417 - 1 : Int) / 2 < a % 8380417 then a % 8380417 - 8380417 else a % 8380417) < 8380417 := by split <;> omega
    generalize (if (8380417 - 1 : Int) / 2 < a % 8380417 then a % 8380417 - 8380417 else a % 8380417) = c at *
    generalize (0 - a) % 8380417 = s at *
    have p4 := Mod c hR
    rw [hc] at p4
    have p5 := Mod a hR
    have w1 : IntKind.i64.wrap (2 * c) = 2 * c := i64_in _ (by omega)
    have w2 : IntKind.i64.wrap (-2 * c) = -2 * c := i64_in _ (by omega)
    have w2' : IntKind.i64.wrap (-(2 * c)) = -(2 * c) := i64_in _ (by omega)
    have w3 : IntKind.i64.wrap (c + -c) = 0 := by rw [show c + -c = 0 by omega]; rfl
    have w4 : IntKind.i64.wrap 0 = 0 := rfl
    have b1 : 2 * c < 8380417 := by omega
    have b2 : -2 * c < 8380417 := by omega
    have b3 : -(2 * c) < 8380417 := by omega
    simp (maxSteps := 1000000) [A5, first, Primes, hK, e, p1, p2, p3, p4, p5, w1, w2, w2', w3, w4, b1, b2, b3, ↓W_seq, ↓W_skip, ↓W_ret, ↓W_exit, ↓W_reg, ↓W_cond, ↓W_block, ↓W_pre, ↓cleanO_some, ↓freezes_nil, ↓freezes_cons, ↓frzO_some, ↓andThen_normal, ↓andThen_ret, ↓andThen_exit, ↓unblock_normal, ↓unblock_ret, ↓unblock_exit, ↓Ends_normal, ↓Ends_ret, ↓steps_nil, ↓steps_cons, ↓step_some, ↓st_move, ↓st_pick, ↓st_bin, ↓st_un, ↓st_conv, ↓st_addr, ↓st_ixA, ↓st_ixS, ↓st_fld, ↓st_ixV, ↓st_ixStr, ↓st_ext, ↓st_build, ↓st_bsl, ↓st_mkS, ↓st_mkfn, ↓st_len, ↓st_mn, ↓st_mx, ↓st_nilChk, ↓st_tas, ↓st_slc, ↓st_load, ↓st_call, ↓st_store, ↓st_box, ↓st_alloc, ↓st_mkR, ↓st_bslR, ↓st_nilR, ↓st_app, ↓st_callK, ↓stepsAt_some, ↓onSome_some, ↓onB_true, ↓onB_false, ↓onG_tt, ↓onG_tf, ↓onG_ft, ↓onG_ff, ↓onG_un, ↓optPut_some, ↓optMem_some, enterS, enterL, evalO, evalL, constAV, get_cons, get_nil, put_cons, put_nil, look_cons, look_nil, putD_some, clean_mk, freeze_mk, mapS, AV.mapR, frz1, del_cons, del_nil, kill1, keepS_cons, keepS_nil, keepL_cons, keepL_nil, memb_cons, memb_nil, binV, intV, unV, eqlV, pureV, readV, writeV, stepK, convV_i, addrV, toArgs, toArg, anyRs, isRs, hasSl, hasSl2, hasSl1, hasSl2L, fromRet, fromRetL, fromRet1, finR, resL, resV, toRets, toRet, lentOf, one, Nat.beq, Nat.blt, Nat.ble, shiftV_shr, shiftV_shl, IntKind.bits, fillV, partV, cellsOf, AV.flat, zrep, List.getElem?_cons_zero, List.getElem?_cons_succ, List.length_cons, List.length_nil, List.set_cons_zero, List.set_cons_succ, stepsAt_some, onSome_some, onB_true, onB_false, onG_tt, onG_tf, onG_ft, onG_ff, onG_un, optPut_some, optMem_some]

end Zab.YthfbehemcpghaaaDoor
