/- The laws of the first chapter: what their code answers. -/
import Derived.Test.YthfbehemcpghaaaDoorZq
namespace Zab.YthfbehemcpghaaaDoor
open Go
open Go.IntWalk (i64_in)
set_option maxRecDepth 100000
set_option linter.unusedSimpArgs false
set_option linter.unusedVariables false

theorem pow_add' (a : Int) (m : Nat) : ∀ n : Nat, a ^ (m + n) = a ^ m * a ^ n
  | 0 => by simp
  | n + 1 => by rw [show m + (n + 1) = (m + n) + 1 by omega, Int.pow_succ, Int.pow_succ, pow_add' a m n, Int.mul_assoc]

theorem pow_mul' (a : Int) (m : Nat) : ∀ n : Nat, (a ^ m) ^ n = a ^ (m * n)
  | 0 => by simp
  | n + 1 => by rw [Int.pow_succ, pow_mul' a m n, Nat.mul_succ, pow_add']

set_option maxHeartbeats 4000000 in
theorem ZqPowers (k a m n : Int) : FF tab 3 [.i .i64 k, .i .i64 a, .i .i64 m, .i .i64 n] = some ⟨.b true, []⟩ := by
  have hK := Number k 7 (by omega) (by omega)
  have hM := Number m 1048576 (by omega) (by omega)
  have hN := Number n 1048576 (by omega) (by omega)
  have m0 : 0 ≤ m % 1048576 ∧ m % 1048576 < 1048576 := by omega
  have n0 : 0 ≤ n % 1048576 ∧ n % 1048576 < 1048576 := by omega
  generalize m % 1048576 = M at *
  generalize n % 1048576 = N at *
  have hk : k % 7 = 0 ∨ k % 7 = 1 ∨ k % 7 = 2 ∨ k % 7 = 3 ∨ k % 7 = 4 ∨ k % 7 = 5 ∨ k % 7 = 6 := by omega
  have w1 : IntKind.i64.wrap (M + N) = M + N := i64_in _ (by omega)
  have w2 : IntKind.i64.wrap (-1 - N) = -1 - N := i64_in _ (by omega)
  have facts : ∀ {p : Int}, Right p → a ^ M.toNat % p * (a ^ N.toNat % p) % p = a ^ (M + N).toNat % p ∧ (a ^ M.toNat % p) ^ N.toNat % p = (a ^ N.toNat % p) ^ M.toNat % p ∧ a ^ (0 : Int).toNat % p = 1 ∧ a ^ (1 : Int).toNat % p = a % p := by
    intro p hp
    have lo := hp.lo
    refine ⟨?_, ?_, ?_, ?_⟩
    · rw [← Int.mul_emod, ← pow_add', show (M + N).toNat = M.toNat + N.toNat by omega]
    · rw [pow_mod, pow_mod, pow_mul', pow_mul', Nat.mul_comm]
    · rw [Int.toNat_zero, Int.pow_zero]; exact Int.emod_eq_of_lt (by omega) (by omega)
    · rw [show (1 : Int).toNat = 1 from rfl, Int.pow_one]
  refine call_by (A := A3) rfl rfl ?_
  rcases hk with e | e | e | e | e | e | e
  · have hR := (show Right 17 by unfold Right; omega)
    obtain ⟨f1, f2, f3, f4⟩ := facts hR
    have p1 := Pow a hR (e := M) (by omega) (by omega)
    have p2 := Pow a hR (e := N) (by omega) (by omega)
    have p3 := Pow a hR (e := M + N) (by omega) (by omega)
    have p4 := Pow (a ^ M.toNat % 17) hR (e := N) (by omega) (by omega)
    have p5 := Pow (a ^ N.toNat % 17) hR (e := M) (by omega) (by omega)
    have p6 := Pow a hR (e := 0) (by omega) (by omega)
    have p7 := Pow a hR (e := 1) (by omega) (by omega)
    have p8 := Pow_neg a hR (e := -1 - N) (by omega)
    have p9 := Mul (a ^ M.toNat % 17) (a ^ N.toNat % 17) hR
    have p10 := Mod a hR
    rw [f1] at p9
    rw [f2] at p4
    rw [f3] at p6
    rw [f4] at p7
    generalize a ^ M.toNat % 17 = u at *
    generalize a ^ N.toNat % 17 = v at *
    generalize a ^ (M + N).toNat % 17 = uv at *
    generalize v ^ M.toNat % 17 = vu at *
    simp (maxSteps := 1000000) [A3, first, Primes, hK, hM, hN, e, w1, w2, p1, p2, p3, p4, p5, p6, p7, p8, p9, p10, ↓W_seq, ↓W_skip, ↓W_ret, ↓W_exit, ↓W_reg, ↓W_cond, ↓W_block, ↓W_pre, ↓cleanO_some, ↓freezes_nil, ↓freezes_cons, ↓frzO_some, ↓andThen_normal, ↓andThen_ret, ↓andThen_exit, ↓unblock_normal, ↓unblock_ret, ↓unblock_exit, ↓Ends_normal, ↓Ends_ret, ↓steps_nil, ↓steps_cons, ↓step_some, ↓st_move, ↓st_pick, ↓st_bin, ↓st_un, ↓st_conv, ↓st_addr, ↓st_ixA, ↓st_ixS, ↓st_fld, ↓st_ixV, ↓st_ixStr, ↓st_ext, ↓st_build, ↓st_bsl, ↓st_mkS, ↓st_mkfn, ↓st_len, ↓st_mn, ↓st_mx, ↓st_nilChk, ↓st_tas, ↓st_slc, ↓st_load, ↓st_call, ↓st_store, ↓st_box, ↓st_alloc, ↓st_mkR, ↓st_bslR, ↓st_nilR, ↓st_app, ↓st_callK, ↓stepsAt_some, ↓onSome_some, ↓onB_true, ↓onB_false, ↓onG_tt, ↓onG_tf, ↓onG_ft, ↓onG_ff, ↓onG_un, ↓optPut_some, ↓optMem_some, enterS, enterL, evalO, evalL, constAV, get_cons, get_nil, put_cons, put_nil, look_cons, look_nil, putD_some, clean_mk, freeze_mk, mapS, AV.mapR, frz1, del_cons, del_nil, kill1, keepS_cons, keepS_nil, keepL_cons, keepL_nil, memb_cons, memb_nil, binV, intV, unV, eqlV, pureV, readV, writeV, stepK, convV_i, addrV, toArgs, toArg, anyRs, isRs, hasSl, hasSl2, hasSl1, hasSl2L, fromRet, fromRetL, fromRet1, finR, resL, resV, toRets, toRet, lentOf, one, Nat.beq, Nat.blt, Nat.ble, shiftV_shr, shiftV_shl, IntKind.bits, fillV, partV, cellsOf, AV.flat, zrep, List.getElem?_cons_zero, List.getElem?_cons_succ, List.length_cons, List.length_nil, List.set_cons_zero, List.set_cons_succ, stepsAt_some, onSome_some, onB_true, onB_false, onG_tt, onG_tf, onG_ft, onG_ff, onG_un, optPut_some, optMem_some]
  · have hR := (show Right 97 by unfold Right; omega)
    obtain ⟨f1, f2, f3, f4⟩ := facts hR
    have p1 := Pow a hR (e := M) (by omega) (by omega)
    have p2 := Pow a hR (e := N) (by omega) (by omega)
    have p3 := Pow a hR (e := M + N) (by omega) (by omega)
    have p4 := Pow (a ^ M.toNat % 97) hR (e := N) (by omega) (by omega)
    have p5 := Pow (a ^ N.toNat % 97) hR (e := M) (by omega) (by omega)
    have p6 := Pow a hR (e := 0) (by omega) (by omega)
    have p7 := Pow a hR (e := 1) (by omega) (by omega)
    have p8 := Pow_neg a hR (e := -1 - N) (by omega)
    have p9 := Mul (a ^ M.toNat % 97) (a ^ N.toNat % 97) hR
    have p10 := Mod a hR
    rw [f1] at p9
    rw [f2] at p4
    rw [f3] at p6
    rw [f4] at p7
    generalize a ^ M.toNat % 97 = u at *
    generalize a ^ N.toNat % 97 = v at *
    generalize a ^ (M + N).toNat % 97 = uv at *
    generalize v ^ M.toNat % 97 = vu at *
    simp (maxSteps := 1000000) [A3, first, Primes, hK, hM, hN, e, w1, w2, p1, p2, p3, p4, p5, p6, p7, p8, p9, p10, ↓W_seq, ↓W_skip, ↓W_ret, ↓W_exit, ↓W_reg, ↓W_cond, ↓W_block, ↓W_pre, ↓cleanO_some, ↓freezes_nil, ↓freezes_cons, ↓frzO_some, ↓andThen_normal, ↓andThen_ret, ↓andThen_exit, ↓unblock_normal, ↓unblock_ret, ↓unblock_exit, ↓Ends_normal, ↓Ends_ret, ↓steps_nil, ↓steps_cons, ↓step_some, ↓st_move, ↓st_pick, ↓st_bin, ↓st_un, ↓st_conv, ↓st_addr, ↓st_ixA, ↓st_ixS, ↓st_fld, ↓st_ixV, ↓st_ixStr, ↓st_ext, ↓st_build, ↓st_bsl, ↓st_mkS, ↓st_mkfn, ↓st_len, ↓st_mn, ↓st_mx, ↓st_nilChk, ↓st_tas, ↓st_slc, ↓st_load, ↓st_call, ↓st_store, ↓st_box, ↓st_alloc, ↓st_mkR, ↓st_bslR, ↓st_nilR, ↓st_app, ↓st_callK, ↓stepsAt_some, ↓onSome_some, ↓onB_true, ↓onB_false, ↓onG_tt, ↓onG_tf, ↓onG_ft, ↓onG_ff, ↓onG_un, ↓optPut_some, ↓optMem_some, enterS, enterL, evalO, evalL, constAV, get_cons, get_nil, put_cons, put_nil, look_cons, look_nil, putD_some, clean_mk, freeze_mk, mapS, AV.mapR, frz1, del_cons, del_nil, kill1, keepS_cons, keepS_nil, keepL_cons, keepL_nil, memb_cons, memb_nil, binV, intV, unV, eqlV, pureV, readV, writeV, stepK, convV_i, addrV, toArgs, toArg, anyRs, isRs, hasSl, hasSl2, hasSl1, hasSl2L, fromRet, fromRetL, fromRet1, finR, resL, resV, toRets, toRet, lentOf, one, Nat.beq, Nat.blt, Nat.ble, shiftV_shr, shiftV_shl, IntKind.bits, fillV, partV, cellsOf, AV.flat, zrep, List.getElem?_cons_zero, List.getElem?_cons_succ, List.length_cons, List.length_nil, List.set_cons_zero, List.set_cons_succ, stepsAt_some, onSome_some, onB_true, onB_false, onG_tt, onG_tf, onG_ft, onG_ff, onG_un, optPut_some, optMem_some]
  · have hR := (show Right 257 by unfold Right; omega)
    obtain ⟨f1, f2, f3, f4⟩ := facts hR
    have p1 := Pow a hR (e := M) (by omega) (by omega)
    have p2 := Pow a hR (e := N) (by omega) (by omega)
    have p3 := Pow a hR (e := M + N) (by omega) (by omega)
    have p4 := Pow (a ^ M.toNat % 257) hR (e := N) (by omega) (by omega)
    have p5 := Pow (a ^ N.toNat % 257) hR (e := M) (by omega) (by omega)
    have p6 := Pow a hR (e := 0) (by omega) (by omega)
    have p7 := Pow a hR (e := 1) (by omega) (by omega)
    have p8 := Pow_neg a hR (e := -1 - N) (by omega)
    have p9 := Mul (a ^ M.toNat % 257) (a ^ N.toNat % 257) hR
    have p10 := Mod a hR
    rw [f1] at p9
    rw [f2] at p4
    rw [f3] at p6
    rw [f4] at p7
    generalize a ^ M.toNat % 257 = u at *
    generalize a ^ N.toNat % 257 = v at *
    generalize a ^ (M + N).toNat % 257 = uv at *
    generalize v ^ M.toNat % 257 = vu at *
    simp (maxSteps := 1000000) [A3, first, Primes, hK, hM, hN, e, w1, w2, p1, p2, p3, p4, p5, p6, p7, p8, p9, p10, ↓W_seq, ↓W_skip, ↓W_ret, ↓W_exit, ↓W_reg, ↓W_cond, ↓W_block, ↓W_pre, ↓cleanO_some, ↓freezes_nil, ↓freezes_cons, ↓frzO_some, ↓andThen_normal, ↓andThen_ret, ↓andThen_exit, ↓unblock_normal, ↓unblock_ret, ↓unblock_exit, ↓Ends_normal, ↓Ends_ret, ↓steps_nil, ↓steps_cons, ↓step_some, ↓st_move, ↓st_pick, ↓st_bin, ↓st_un, ↓st_conv, ↓st_addr, ↓st_ixA, ↓st_ixS, ↓st_fld, ↓st_ixV, ↓st_ixStr, ↓st_ext, ↓st_build, ↓st_bsl, ↓st_mkS, ↓st_mkfn, ↓st_len, ↓st_mn, ↓st_mx, ↓st_nilChk, ↓st_tas, ↓st_slc, ↓st_load, ↓st_call, ↓st_store, ↓st_box, ↓st_alloc, ↓st_mkR, ↓st_bslR, ↓st_nilR, ↓st_app, ↓st_callK, ↓stepsAt_some, ↓onSome_some, ↓onB_true, ↓onB_false, ↓onG_tt, ↓onG_tf, ↓onG_ft, ↓onG_ff, ↓onG_un, ↓optPut_some, ↓optMem_some, enterS, enterL, evalO, evalL, constAV, get_cons, get_nil, put_cons, put_nil, look_cons, look_nil, putD_some, clean_mk, freeze_mk, mapS, AV.mapR, frz1, del_cons, del_nil, kill1, keepS_cons, keepS_nil, keepL_cons, keepL_nil, memb_cons, memb_nil, binV, intV, unV, eqlV, pureV, readV, writeV, stepK, convV_i, addrV, toArgs, toArg, anyRs, isRs, hasSl, hasSl2, hasSl1, hasSl2L, fromRet, fromRetL, fromRet1, finR, resL, resV, toRets, toRet, lentOf, one, Nat.beq, Nat.blt, Nat.ble, shiftV_shr, shiftV_shl, IntKind.bits, fillV, partV, cellsOf, AV.flat, zrep, List.getElem?_cons_zero, List.getElem?_cons_succ, List.length_cons, List.length_nil, List.set_cons_zero, List.set_cons_succ, stepsAt_some, onSome_some, onB_true, onB_false, onG_tt, onG_tf, onG_ft, onG_ff, onG_un, optPut_some, optMem_some]
  · have hR := (show Right 3329 by unfold Right; omega)
    obtain ⟨f1, f2, f3, f4⟩ := facts hR
    have p1 := Pow a hR (e := M) (by omega) (by omega)
    have p2 := Pow a hR (e := N) (by omega) (by omega)
    have p3 := Pow a hR (e := M + N) (by omega) (by omega)
    have p4 := Pow (a ^ M.toNat % 3329) hR (e := N) (by omega) (by omega)
    have p5 := Pow (a ^ N.toNat % 3329) hR (e := M) (by omega) (by omega)
    have p6 := Pow a hR (e := 0) (by omega) (by omega)
    have p7 := Pow a hR (e := 1) (by omega) (by omega)
    have p8 := Pow_neg a hR (e := -1 - N) (by omega)
    have p9 := Mul (a ^ M.toNat % 3329) (a ^ N.toNat % 3329) hR
    have p10 := Mod a hR
    rw [f1] at p9
    rw [f2] at p4
    rw [f3] at p6
    rw [f4] at p7
    generalize a ^ M.toNat % 3329 = u at *
    generalize a ^ N.toNat % 3329 = v at *
    generalize a ^ (M + N).toNat % 3329 = uv at *
    generalize v ^ M.toNat % 3329 = vu at *
    simp (maxSteps := 1000000) [A3, first, Primes, hK, hM, hN, e, w1, w2, p1, p2, p3, p4, p5, p6, p7, p8, p9, p10, ↓W_seq, ↓W_skip, ↓W_ret, ↓W_exit, ↓W_reg, ↓W_cond, ↓W_block, ↓W_pre, ↓cleanO_some, ↓freezes_nil, ↓freezes_cons, ↓frzO_some, ↓andThen_normal, ↓andThen_ret, ↓andThen_exit, ↓unblock_normal, ↓unblock_ret, ↓unblock_exit, ↓Ends_normal, ↓Ends_ret, ↓steps_nil, ↓steps_cons, ↓step_some, ↓st_move, ↓st_pick, ↓st_bin, ↓st_un, ↓st_conv, ↓st_addr, ↓st_ixA, ↓st_ixS, ↓st_fld, ↓st_ixV, ↓st_ixStr, ↓st_ext, ↓st_build, ↓st_bsl, ↓st_mkS, ↓st_mkfn, ↓st_len, ↓st_mn, ↓st_mx, ↓st_nilChk, ↓st_tas, ↓st_slc, ↓st_load, ↓st_call, ↓st_store, ↓st_box, ↓st_alloc, ↓st_mkR, ↓st_bslR, ↓st_nilR, ↓st_app, ↓st_callK, ↓stepsAt_some, ↓onSome_some, ↓onB_true, ↓onB_false, ↓onG_tt, ↓onG_tf, ↓onG_ft, ↓onG_ff, ↓onG_un, ↓optPut_some, ↓optMem_some, enterS, enterL, evalO, evalL, constAV, get_cons, get_nil, put_cons, put_nil, look_cons, look_nil, putD_some, clean_mk, freeze_mk, mapS, AV.mapR, frz1, del_cons, del_nil, kill1, keepS_cons, keepS_nil, keepL_cons, keepL_nil, memb_cons, memb_nil, binV, intV, unV, eqlV, pureV, readV, writeV, stepK, convV_i, addrV, toArgs, toArg, anyRs, isRs, hasSl, hasSl2, hasSl1, hasSl2L, fromRet, fromRetL, fromRet1, finR, resL, resV, toRets, toRet, lentOf, one, Nat.beq, Nat.blt, Nat.ble, shiftV_shr, shiftV_shl, IntKind.bits, fillV, partV, cellsOf, AV.flat, zrep, List.getElem?_cons_zero, List.getElem?_cons_succ, List.length_cons, List.length_nil, List.set_cons_zero, List.set_cons_succ, stepsAt_some, onSome_some, onB_true, onB_false, onG_tt, onG_tf, onG_ft, onG_ff, onG_un, optPut_some, optMem_some]
  · have hR := (show Right 7681 by unfold Right; omega)
    obtain ⟨f1, f2, f3, f4⟩ := facts hR
    have p1 := Pow a hR (e := M) (by omega) (by omega)
    have p2 := Pow a hR (e := N) (by omega) (by omega)
    have p3 := Pow a hR (e := M + N) (by omega) (by omega)
    have p4 := Pow (a ^ M.toNat % 7681) hR (e := N) (by omega) (by omega)
    have p5 := Pow (a ^ N.toNat % 7681) hR (e := M) (by omega) (by omega)
    have p6 := Pow a hR (e := 0) (by omega) (by omega)
    have p7 := Pow a hR (e := 1) (by omega) (by omega)
    have p8 := Pow_neg a hR (e := -1 - N) (by omega)
    have p9 := Mul (a ^ M.toNat % 7681) (a ^ N.toNat % 7681) hR
    have p10 := Mod a hR
    rw [f1] at p9
    rw [f2] at p4
    rw [f3] at p6
    rw [f4] at p7
    generalize a ^ M.toNat % 7681 = u at *
    generalize a ^ N.toNat % 7681 = v at *
    generalize a ^ (M + N).toNat % 7681 = uv at *
    generalize v ^ M.toNat % 7681 = vu at *
    simp (maxSteps := 1000000) [A3, first, Primes, hK, hM, hN, e, w1, w2, p1, p2, p3, p4, p5, p6, p7, p8, p9, p10, ↓W_seq, ↓W_skip, ↓W_ret, ↓W_exit, ↓W_reg, ↓W_cond, ↓W_block, ↓W_pre, ↓cleanO_some, ↓freezes_nil, ↓freezes_cons, ↓frzO_some, ↓andThen_normal, ↓andThen_ret, ↓andThen_exit, ↓unblock_normal, ↓unblock_ret, ↓unblock_exit, ↓Ends_normal, ↓Ends_ret, ↓steps_nil, ↓steps_cons, ↓step_some, ↓st_move, ↓st_pick, ↓st_bin, ↓st_un, ↓st_conv, ↓st_addr, ↓st_ixA, ↓st_ixS, ↓st_fld, ↓st_ixV, ↓st_ixStr, ↓st_ext, ↓st_build, ↓st_bsl, ↓st_mkS, ↓st_mkfn, ↓st_len, ↓st_mn, ↓st_mx, ↓st_nilChk, ↓st_tas, ↓st_slc, ↓st_load, ↓st_call, ↓st_store, ↓st_box, ↓st_alloc, ↓st_mkR, ↓st_bslR, ↓st_nilR, ↓st_app, ↓st_callK, ↓stepsAt_some, ↓onSome_some, ↓onB_true, ↓onB_false, ↓onG_tt, ↓onG_tf, ↓onG_ft, ↓onG_ff, ↓onG_un, ↓optPut_some, ↓optMem_some, enterS, enterL, evalO, evalL, constAV, get_cons, get_nil, put_cons, put_nil, look_cons, look_nil, putD_some, clean_mk, freeze_mk, mapS, AV.mapR, frz1, del_cons, del_nil, kill1, keepS_cons, keepS_nil, keepL_cons, keepL_nil, memb_cons, memb_nil, binV, intV, unV, eqlV, pureV, readV, writeV, stepK, convV_i, addrV, toArgs, toArg, anyRs, isRs, hasSl, hasSl2, hasSl1, hasSl2L, fromRet, fromRetL, fromRet1, finR, resL, resV, toRets, toRet, lentOf, one, Nat.beq, Nat.blt, Nat.ble, shiftV_shr, shiftV_shl, IntKind.bits, fillV, partV, cellsOf, AV.flat, zrep, List.getElem?_cons_zero, List.getElem?_cons_succ, List.length_cons, List.length_nil, List.set_cons_zero, List.set_cons_succ, stepsAt_some, onSome_some, onB_true, onB_false, onG_tt, onG_tf, onG_ft, onG_ff, onG_un, optPut_some, optMem_some]
  · have hR := (show Right 12289 by unfold Right; omega)
    obtain ⟨f1, f2, f3, f4⟩ := facts hR
    have p1 := Pow a hR (e := M) (by omega) (by omega)
    have p2 := Pow a hR (e := N) (by omega) (by omega)
    have p3 := Pow a hR (e := M + N) (by omega) (by omega)
    have p4 := Pow (a ^ M.toNat % 12289) hR (e := N) (by omega) (by omega)
    have p5 := Pow (a ^ N.toNat % 12289) hR (e := M) (by omega) (by omega)
    have p6 := Pow a hR (e := 0) (by omega) (by omega)
    have p7 := Pow a hR (e := 1) (by omega) (by omega)
    have p8 := Pow_neg a hR (e := -1 - N) (by omega)
    have p9 := Mul (a ^ M.toNat % 12289) (a ^ N.toNat % 12289) hR
    have p10 := Mod a hR
    rw [f1] at p9
    rw [f2] at p4
    rw [f3] at p6
    rw [f4] at p7
    generalize a ^ M.toNat % 12289 = u at *
    generalize a ^ N.toNat % 12289 = v at *
    generalize a ^ (M + N).toNat % 12289 = uv at *
    generalize v ^ M.toNat % 12289 = vu at *
    simp (maxSteps := 1000000) [A3, first, Primes, hK, hM, hN, e, w1, w2, p1, p2, p3, p4, p5, p6, p7, p8, p9, p10, ↓W_seq, ↓W_skip, ↓W_ret, ↓W_exit, ↓W_reg, ↓W_cond, ↓W_block, ↓W_pre, ↓cleanO_some, ↓freezes_nil, ↓freezes_cons, ↓frzO_some, ↓andThen_normal, ↓andThen_ret, ↓andThen_exit, ↓unblock_normal, ↓unblock_ret, ↓unblock_exit, ↓Ends_normal, ↓Ends_ret, ↓steps_nil, ↓steps_cons, ↓step_some, ↓st_move, ↓st_pick, ↓st_bin, ↓st_un, ↓st_conv, ↓st_addr, ↓st_ixA, ↓st_ixS, ↓st_fld, ↓st_ixV, ↓st_ixStr, ↓st_ext, ↓st_build, ↓st_bsl, ↓st_mkS, ↓st_mkfn, ↓st_len, ↓st_mn, ↓st_mx, ↓st_nilChk, ↓st_tas, ↓st_slc, ↓st_load, ↓st_call, ↓st_store, ↓st_box, ↓st_alloc, ↓st_mkR, ↓st_bslR, ↓st_nilR, ↓st_app, ↓st_callK, ↓stepsAt_some, ↓onSome_some, ↓onB_true, ↓onB_false, ↓onG_tt, ↓onG_tf, ↓onG_ft, ↓onG_ff, ↓onG_un, ↓optPut_some, ↓optMem_some, enterS, enterL, evalO, evalL, constAV, get_cons, get_nil, put_cons, put_nil, look_cons, look_nil, putD_some, clean_mk, freeze_mk, mapS, AV.mapR, frz1, del_cons, del_nil, kill1, keepS_cons, keepS_nil, keepL_cons, keepL_nil, memb_cons, memb_nil, binV, intV, unV, eqlV, pureV, readV, writeV, stepK, convV_i, addrV, toArgs, toArg, anyRs, isRs, hasSl, hasSl2, hasSl1, hasSl2L, fromRet, fromRetL, fromRet1, finR, resL, resV, toRets, toRet, lentOf, one, Nat.beq, Nat.blt, Nat.ble, shiftV_shr, shiftV_shl, IntKind.bits, fillV, partV, cellsOf, AV.flat, zrep, List.getElem?_cons_zero, List.getElem?_cons_succ, List.length_cons, List.length_nil, List.set_cons_zero, List.set_cons_succ, stepsAt_some, onSome_some, onB_true, onB_false, onG_tt, onG_tf, onG_ft, onG_ff, onG_un, optPut_some, optMem_some]
  · have hR := (show Right 8380417 by unfold Right; omega)
    obtain ⟨f1, f2, f3, f4⟩ := facts hR
    have p1 := Pow a hR (e := M) (by omega) (by omega)
    have p2 := Pow a hR (e := N) (by omega) (by omega)
    have p3 := Pow a hR (e := M + N) (by omega) (by omega)
    have p4 := Pow (a ^ M.toNat % 8380417) hR (e := N) (by omega) (by omega)
    have p5 := Pow (a ^ N.toNat % 8380417) hR (e := M) (by omega) (by omega)
    have p6 := Pow a hR (e := 0) (by omega) (by omega)
    have p7 := Pow a hR (e := 1) (by omega) (by omega)
    have p8 := Pow_neg a hR (e := -1 - N) (by omega)
    have p9 := Mul (a ^ M.toNat % 8380417) (a ^ N.toNat % 8380417) hR
    have p10 := Mod a hR
    rw [f1] at p9
    rw [f2] at p4
    rw [f3] at p6
    rw [f4] at p7
    generalize a ^ M.toNat % 8380417 = u at *
    generalize a ^ N.toNat % 8380417 = v at *
    generalize a ^ (M + N).toNat % 8380417 = uv at *
    generalize v ^ M.toNat % 8380417 = vu at *
    simp (maxSteps := 1000000) [A3, first, Primes, hK, hM, hN, e, w1, w2, p1, p2, p3, p4, p5, p6, p7, p8, p9, p10, ↓W_seq, ↓W_skip, ↓W_ret, ↓W_exit, ↓W_reg, ↓W_cond, ↓W_block, ↓W_pre, ↓cleanO_some, ↓freezes_nil, ↓freezes_cons, ↓frzO_some, ↓andThen_normal, ↓andThen_ret, ↓andThen_exit, ↓unblock_normal, ↓unblock_ret, ↓unblock_exit, ↓Ends_normal, ↓Ends_ret, ↓steps_nil, ↓steps_cons, ↓step_some, ↓st_move, ↓st_pick, ↓st_bin, ↓st_un, ↓st_conv, ↓st_addr, ↓st_ixA, ↓st_ixS, ↓st_fld, ↓st_ixV, ↓st_ixStr, ↓st_ext, ↓st_build, ↓st_bsl, ↓st_mkS, ↓st_mkfn, ↓st_len, ↓st_mn, ↓st_mx, ↓st_nilChk, ↓st_tas, ↓st_slc, ↓st_load, ↓st_call, ↓st_store, ↓st_box, ↓st_alloc, ↓st_mkR, ↓st_bslR, ↓st_nilR, ↓st_app, ↓st_callK, ↓stepsAt_some, ↓onSome_some, ↓onB_true, ↓onB_false, ↓onG_tt, ↓onG_tf, ↓onG_ft, ↓onG_ff, ↓onG_un, ↓optPut_some, ↓optMem_some, enterS, enterL, evalO, evalL, constAV, get_cons, get_nil, put_cons, put_nil, look_cons, look_nil, putD_some, clean_mk, freeze_mk, mapS, AV.mapR, frz1, del_cons, del_nil, kill1, keepS_cons, keepS_nil, keepL_cons, keepL_nil, memb_cons, memb_nil, binV, intV, unV, eqlV, pureV, readV, writeV, stepK, convV_i, addrV, toArgs, toArg, anyRs, isRs, hasSl, hasSl2, hasSl1, hasSl2L, fromRet, fromRetL, fromRet1, finR, resL, resV, toRets, toRet, lentOf, one, Nat.beq, Nat.blt, Nat.ble, shiftV_shr, shiftV_shl, IntKind.bits, fillV, partV, cellsOf, AV.flat, zrep, List.getElem?_cons_zero, List.getElem?_cons_succ, List.length_cons, List.length_nil, List.set_cons_zero, List.set_cons_succ, stepsAt_some, onSome_some, onB_true, onB_false, onG_tt, onG_tf, onG_ft, onG_ff, onG_un, optPut_some, optMem_some]

end Zab.YthfbehemcpghaaaDoor
