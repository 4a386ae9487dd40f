/- What the other functions of the chapter on hints give back. -/
import Derived.Test.YthfbehemcpghaaaHint
namespace Zab.Ythfbehemcpghaaa
open Go
open Go.IntWalk (i64_in)
set_option maxRecDepth 100000
set_option linter.unusedSimpArgs false
set_option linter.unusedVariables false

theorem unfair {g : Int} (h : ¬ (g = 95232 ∨ g = 261888)) : FF tab 22 [.i .i64 g] = some ⟨.b false, []⟩ := by
  refine call_by (A := A22) rfl rfl ?_
  have h1 : ¬ g = 95232 := fun e => h (.inl e)
  have h2 : ¬ g = 261888 := fun e => h (.inr e)
  simp [A22, h1, h2, ↓W_seq, ↓W_skip, ↓W_ret, ↓W_exit, ↓W_reg, ↓W_cond, ↓W_block, ↓W_pre, ↓cleanO_some, ↓freezes_nil, ↓freezes_cons, ↓frzO_some, ↓andThen_normal, ↓andThen_ret, ↓andThen_exit, ↓unblock_normal, ↓unblock_ret, ↓unblock_exit, ↓Ends_normal, ↓Ends_ret, ↓steps_nil, ↓steps_cons, ↓step_some, ↓st_move, ↓st_pick, ↓st_bin, ↓st_un, ↓st_conv, ↓st_addr, ↓st_ixA, ↓st_ixS, ↓st_fld, ↓st_ixV, ↓st_ixStr, ↓st_ext, ↓st_build, ↓st_bsl, ↓st_mkS, ↓st_mkfn, ↓st_len, ↓st_mn, ↓st_mx, ↓st_nilChk, ↓st_tas, ↓st_slc, ↓st_load, ↓st_call, ↓st_store, ↓st_box, ↓st_alloc, ↓st_mkR, ↓st_bslR, ↓st_nilR, ↓st_app, ↓st_callK, ↓stepsAt_some, ↓onSome_some, ↓onB_true, ↓onB_false, ↓onG_tt, ↓onG_tf, ↓onG_ft, ↓onG_ff, ↓onG_un, ↓optPut_some, ↓optMem_some, enterS, enterL, evalO, evalL, constAV, get_cons, get_nil, put_cons, put_nil, look_cons, look_nil, putD_some, clean_mk, freeze_mk, mapS, AV.mapR, frz1, del_cons, del_nil, kill1, keepS_cons, keepS_nil, keepL_cons, keepL_nil, memb_cons, memb_nil, binV, intV, unV, eqlV, pureV, readV, writeV, stepK, convV_i, addrV, toArgs, toArg, anyRs, isRs, hasSl, hasSl2, hasSl1, hasSl2L, fromRet, fromRetL, fromRet1, finR, resL, resV, toRets, toRet, lentOf, one, Nat.beq, Nat.blt, Nat.ble, shiftV_shr, shiftV_shl, IntKind.bits, fillV, partV, cellsOf, AV.flat, zrep, List.getElem?_cons_zero, List.getElem?_cons_succ, List.length_cons, List.length_nil, List.set_cons_zero, List.set_cons_succ, stepsAt_some, onSome_some, onB_true, onB_false, onG_tt, onG_tf, onG_ft, onG_ff, onG_un, optPut_some, optMem_some]

theorem Split_bad (a : Int) {g : Int} (h : ¬ (g = 95232 ∨ g = 261888)) : FF tab 11 [.i .i64 a, .i .i64 g] = some ⟨.tp [.i .i64 0, .i .i64 0], []⟩ := by
  refine call_by (A := A11) rfl rfl ?_
  simp [A11, unfair h, ↓W_seq, ↓W_skip, ↓W_ret, ↓W_exit, ↓W_reg, ↓W_cond, ↓W_block, ↓W_pre, ↓cleanO_some, ↓freezes_nil, ↓freezes_cons, ↓frzO_some, ↓andThen_normal, ↓andThen_ret, ↓andThen_exit, ↓unblock_normal, ↓unblock_ret, ↓unblock_exit, ↓Ends_normal, ↓Ends_ret, ↓steps_nil, ↓steps_cons, ↓step_some, ↓st_move, ↓st_pick, ↓st_bin, ↓st_un, ↓st_conv, ↓st_addr, ↓st_ixA, ↓st_ixS, ↓st_fld, ↓st_ixV, ↓st_ixStr, ↓st_ext, ↓st_build, ↓st_bsl, ↓st_mkS, ↓st_mkfn, ↓st_len, ↓st_mn, ↓st_mx, ↓st_nilChk, ↓st_tas, ↓st_slc, ↓st_load, ↓st_call, ↓st_store, ↓st_box, ↓st_alloc, ↓st_mkR, ↓st_bslR, ↓st_nilR, ↓st_app, ↓st_callK, ↓stepsAt_some, ↓onSome_some, ↓onB_true, ↓onB_false, ↓onG_tt, ↓onG_tf, ↓onG_ft, ↓onG_ff, ↓onG_un, ↓optPut_some, ↓optMem_some, enterS, enterL, evalO, evalL, constAV, get_cons, get_nil, put_cons, put_nil, look_cons, look_nil, putD_some, clean_mk, freeze_mk, mapS, AV.mapR, frz1, del_cons, del_nil, kill1, keepS_cons, keepS_nil, keepL_cons, keepL_nil, memb_cons, memb_nil, binV, intV, unV, eqlV, pureV, readV, writeV, stepK, convV_i, addrV, toArgs, toArg, anyRs, isRs, hasSl, hasSl2, hasSl1, hasSl2L, fromRet, fromRetL, fromRet1, finR, resL, resV, toRets, toRet, lentOf, one, Nat.beq, Nat.blt, Nat.ble, shiftV_shr, shiftV_shl, IntKind.bits, fillV, partV, cellsOf, AV.flat, zrep, List.getElem?_cons_zero, List.getElem?_cons_succ, List.length_cons, List.length_nil, List.set_cons_zero, List.set_cons_succ, stepsAt_some, onSome_some, onB_true, onB_false, onG_tt, onG_tf, onG_ft, onG_ff, onG_un, optPut_some, optMem_some]

theorem High (a : Int) {g : Int} (h : g = 95232 ∨ g = 261888) : FF tab 14 [.i .i64 a, .i .i64 g] = some ⟨.i .i64 (sp a g).1, []⟩ := by
  refine call_by (A := A14) rfl rfl ?_
  simp [A14, Split a h, ↓W_seq, ↓W_skip, ↓W_ret, ↓W_exit, ↓W_reg, ↓W_cond, ↓W_block, ↓W_pre, ↓cleanO_some, ↓freezes_nil, ↓freezes_cons, ↓frzO_some, ↓andThen_normal, ↓andThen_ret, ↓andThen_exit, ↓unblock_normal, ↓unblock_ret, ↓unblock_exit, ↓Ends_normal, ↓Ends_ret, ↓steps_nil, ↓steps_cons, ↓step_some, ↓st_move, ↓st_pick, ↓st_bin, ↓st_un, ↓st_conv, ↓st_addr, ↓st_ixA, ↓st_ixS, ↓st_fld, ↓st_ixV, ↓st_ixStr, ↓st_ext, ↓st_build, ↓st_bsl, ↓st_mkS, ↓st_mkfn, ↓st_len, ↓st_mn, ↓st_mx, ↓st_nilChk, ↓st_tas, ↓st_slc, ↓st_load, ↓st_call, ↓st_store, ↓st_box, ↓st_alloc, ↓st_mkR, ↓st_bslR, ↓st_nilR, ↓st_app, ↓st_callK, ↓stepsAt_some, ↓onSome_some, ↓onB_true, ↓onB_false, ↓onG_tt, ↓onG_tf, ↓onG_ft, ↓onG_ff, ↓onG_un, ↓optPut_some, ↓optMem_some, enterS, enterL, evalO, evalL, constAV, get_cons, get_nil, put_cons, put_nil, look_cons, look_nil, putD_some, clean_mk, freeze_mk, mapS, AV.mapR, frz1, del_cons, del_nil, kill1, keepS_cons, keepS_nil, keepL_cons, keepL_nil, memb_cons, memb_nil, binV, intV, unV, eqlV, pureV, readV, writeV, stepK, convV_i, addrV, toArgs, toArg, anyRs, isRs, hasSl, hasSl2, hasSl1, hasSl2L, fromRet, fromRetL, fromRet1, finR, resL, resV, toRets, toRet, lentOf, one, Nat.beq, Nat.blt, Nat.ble, shiftV_shr, shiftV_shl, IntKind.bits, fillV, partV, cellsOf, AV.flat, zrep, List.getElem?_cons_zero, List.getElem?_cons_succ, List.length_cons, List.length_nil, List.set_cons_zero, List.set_cons_succ, stepsAt_some, onSome_some, onB_true, onB_false, onG_tt, onG_tf, onG_ft, onG_ff, onG_un, optPut_some, optMem_some]

theorem High_bad (a : Int) {g : Int} (h : ¬ (g = 95232 ∨ g = 261888)) : FF tab 14 [.i .i64 a, .i .i64 g] = some ⟨.i .i64 0, []⟩ := by
  refine call_by (A := A14) rfl rfl ?_
  simp [A14, Split_bad a h, ↓W_seq, ↓W_skip, ↓W_ret, ↓W_exit, ↓W_reg, ↓W_cond, ↓W_block, ↓W_pre, ↓cleanO_some, ↓freezes_nil, ↓freezes_cons, ↓frzO_some, ↓andThen_normal, ↓andThen_ret, ↓andThen_exit, ↓unblock_normal, ↓unblock_ret, ↓unblock_exit, ↓Ends_normal, ↓Ends_ret, ↓steps_nil, ↓steps_cons, ↓step_some, ↓st_move, ↓st_pick, ↓st_bin, ↓st_un, ↓st_conv, ↓st_addr, ↓st_ixA, ↓st_ixS, ↓st_fld, ↓st_ixV, ↓st_ixStr, ↓st_ext, ↓st_build, ↓st_bsl, ↓st_mkS, ↓st_mkfn, ↓st_len, ↓st_mn, ↓st_mx, ↓st_nilChk, ↓st_tas, ↓st_slc, ↓st_load, ↓st_call, ↓st_store, ↓st_box, ↓st_alloc, ↓st_mkR, ↓st_bslR, ↓st_nilR, ↓st_app, ↓st_callK, ↓stepsAt_some, ↓onSome_some, ↓onB_true, ↓onB_false, ↓onG_tt, ↓onG_tf, ↓onG_ft, ↓onG_ff, ↓onG_un, ↓optPut_some, ↓optMem_some, enterS, enterL, evalO, evalL, constAV, get_cons, get_nil, put_cons, put_nil, look_cons, look_nil, putD_some, clean_mk, freeze_mk, mapS, AV.mapR, frz1, del_cons, del_nil, kill1, keepS_cons, keepS_nil, keepL_cons, keepL_nil, memb_cons, memb_nil, binV, intV, unV, eqlV, pureV, readV, writeV, stepK, convV_i, addrV, toArgs, toArg, anyRs, isRs, hasSl, hasSl2, hasSl1, hasSl2L, fromRet, fromRetL, fromRet1, finR, resL, resV, toRets, toRet, lentOf, one, Nat.beq, Nat.blt, Nat.ble, shiftV_shr, shiftV_shl, IntKind.bits, fillV, partV, cellsOf, AV.flat, zrep, List.getElem?_cons_zero, List.getElem?_cons_succ, List.length_cons, List.length_nil, List.set_cons_zero, List.set_cons_succ, stepsAt_some, onSome_some, onB_true, onB_false, onG_tt, onG_tf, onG_ft, onG_ff, onG_un, optPut_some, optMem_some]

theorem Add (a b : Int) : FF tab 25 [.i .i64 a, .i .i64 b, .i .i64 8380417] = some ⟨.i .i64 ((a + b) % 8380417), []⟩ := by
  refine call_by (A := A25) rfl rfl ?_
  have e1 : IntKind.i64.wrap (a % 8380417 + b % 8380417) = a % 8380417 + b % 8380417 := i64_in _ (by omega)
  simp [A25, Mod_q, e1, ↓W_seq, ↓W_skip, ↓W_ret, ↓W_exit, ↓W_reg, ↓W_cond, ↓W_block, ↓W_pre, ↓cleanO_some, ↓freezes_nil, ↓freezes_cons, ↓frzO_some, ↓andThen_normal, ↓andThen_ret, ↓andThen_exit, ↓unblock_normal, ↓unblock_ret, ↓unblock_exit, ↓Ends_normal, ↓Ends_ret, ↓steps_nil, ↓steps_cons, ↓step_some, ↓st_move, ↓st_pick, ↓st_bin, ↓st_un, ↓st_conv, ↓st_addr, ↓st_ixA, ↓st_ixS, ↓st_fld, ↓st_ixV, ↓st_ixStr, ↓st_ext, ↓st_build, ↓st_bsl, ↓st_mkS, ↓st_mkfn, ↓st_len, ↓st_mn, ↓st_mx, ↓st_nilChk, ↓st_tas, ↓st_slc, ↓st_load, ↓st_call, ↓st_store, ↓st_box, ↓st_alloc, ↓st_mkR, ↓st_bslR, ↓st_nilR, ↓st_app, ↓st_callK, ↓stepsAt_some, ↓onSome_some, ↓onB_true, ↓onB_false, ↓onG_tt, ↓onG_tf, ↓onG_ft, ↓onG_ff, ↓onG_un, ↓optPut_some, ↓optMem_some, enterS, enterL, evalO, evalL, constAV, get_cons, get_nil, put_cons, put_nil, look_cons, look_nil, putD_some, clean_mk, freeze_mk, mapS, AV.mapR, frz1, del_cons, del_nil, kill1, keepS_cons, keepS_nil, keepL_cons, keepL_nil, memb_cons, memb_nil, binV, intV, unV, eqlV, pureV, readV, writeV, stepK, convV_i, addrV, toArgs, toArg, anyRs, isRs, hasSl, hasSl2, hasSl1, hasSl2L, fromRet, fromRetL, fromRet1, finR, resL, resV, toRets, toRet, lentOf, one, Nat.beq, Nat.blt, Nat.ble, shiftV_shr, shiftV_shl, IntKind.bits, fillV, partV, cellsOf, AV.flat, zrep, List.getElem?_cons_zero, List.getElem?_cons_succ, List.length_cons, List.length_nil, List.set_cons_zero, List.set_cons_succ, stepsAt_some, onSome_some, onB_true, onB_false, onG_tt, onG_tf, onG_ft, onG_ff, onG_un, optPut_some, optMem_some]

theorem sp_mod (a g : Int) : sp (a % 8380417) g = sp a g := by
  simp only [sp, Int.emod_emod]

theorem Make (z a : Int) {g : Int} (h : g = 95232 ∨ g = 261888) : FF tab 15 [.i .i64 z, .i .i64 a, .i .i64 g] = some ⟨.b (!decide ((sp a g).1 = (sp (a + z) g).1)), []⟩ := by
  refine call_by (A := A15) rfl rfl ?_
  simp [A15, High _ h, Add, sp_mod, ↓W_seq, ↓W_skip, ↓W_ret, ↓W_exit, ↓W_reg, ↓W_cond, ↓W_block, ↓W_pre, ↓cleanO_some, ↓freezes_nil, ↓freezes_cons, ↓frzO_some, ↓andThen_normal, ↓andThen_ret, ↓andThen_exit, ↓unblock_normal, ↓unblock_ret, ↓unblock_exit, ↓Ends_normal, ↓Ends_ret, ↓steps_nil, ↓steps_cons, ↓step_some, ↓st_move, ↓st_pick, ↓st_bin, ↓st_un, ↓st_conv, ↓st_addr, ↓st_ixA, ↓st_ixS, ↓st_fld, ↓st_ixV, ↓st_ixStr, ↓st_ext, ↓st_build, ↓st_bsl, ↓st_mkS, ↓st_mkfn, ↓st_len, ↓st_mn, ↓st_mx, ↓st_nilChk, ↓st_tas, ↓st_slc, ↓st_load, ↓st_call, ↓st_store, ↓st_box, ↓st_alloc, ↓st_mkR, ↓st_bslR, ↓st_nilR, ↓st_app, ↓st_callK, ↓stepsAt_some, ↓onSome_some, ↓onB_true, ↓onB_false, ↓onG_tt, ↓onG_tf, ↓onG_ft, ↓onG_ff, ↓onG_un, ↓optPut_some, ↓optMem_some, enterS, enterL, evalO, evalL, constAV, get_cons, get_nil, put_cons, put_nil, look_cons, look_nil, putD_some, clean_mk, freeze_mk, mapS, AV.mapR, frz1, del_cons, del_nil, kill1, keepS_cons, keepS_nil, keepL_cons, keepL_nil, memb_cons, memb_nil, binV, intV, unV, eqlV, pureV, readV, writeV, stepK, convV_i, addrV, toArgs, toArg, anyRs, isRs, hasSl, hasSl2, hasSl1, hasSl2L, fromRet, fromRetL, fromRet1, finR, resL, resV, toRets, toRet, lentOf, one, Nat.beq, Nat.blt, Nat.ble, shiftV_shr, shiftV_shl, IntKind.bits, fillV, partV, cellsOf, AV.flat, zrep, List.getElem?_cons_zero, List.getElem?_cons_succ, List.length_cons, List.length_nil, List.set_cons_zero, List.set_cons_succ, stepsAt_some, onSome_some, onB_true, onB_false, onG_tt, onG_tf, onG_ft, onG_ff, onG_un, optPut_some, optMem_some]

theorem Make_bad (z a : Int) {g : Int} (h : ¬ (g = 95232 ∨ g = 261888)) : FF tab 15 [.i .i64 z, .i .i64 a, .i .i64 g] = some ⟨.b false, []⟩ := by
  refine call_by (A := A15) rfl rfl ?_
  simp [A15, High_bad _ h, Add, ↓W_seq, ↓W_skip, ↓W_ret, ↓W_exit, ↓W_reg, ↓W_cond, ↓W_block, ↓W_pre, ↓cleanO_some, ↓freezes_nil, ↓freezes_cons, ↓frzO_some, ↓andThen_normal, ↓andThen_ret, ↓andThen_exit, ↓unblock_normal, ↓unblock_ret, ↓unblock_exit, ↓Ends_normal, ↓Ends_ret, ↓steps_nil, ↓steps_cons, ↓step_some, ↓st_move, ↓st_pick, ↓st_bin, ↓st_un, ↓st_conv, ↓st_addr, ↓st_ixA, ↓st_ixS, ↓st_fld, ↓st_ixV, ↓st_ixStr, ↓st_ext, ↓st_build, ↓st_bsl, ↓st_mkS, ↓st_mkfn, ↓st_len, ↓st_mn, ↓st_mx, ↓st_nilChk, ↓st_tas, ↓st_slc, ↓st_load, ↓st_call, ↓st_store, ↓st_box, ↓st_alloc, ↓st_mkR, ↓st_bslR, ↓st_nilR, ↓st_app, ↓st_callK, ↓stepsAt_some, ↓onSome_some, ↓onB_true, ↓onB_false, ↓onG_tt, ↓onG_tf, ↓onG_ft, ↓onG_ff, ↓onG_un, ↓optPut_some, ↓optMem_some, enterS, enterL, evalO, evalL, constAV, get_cons, get_nil, put_cons, put_nil, look_cons, look_nil, putD_some, clean_mk, freeze_mk, mapS, AV.mapR, frz1, del_cons, del_nil, kill1, keepS_cons, keepS_nil, keepL_cons, keepL_nil, memb_cons, memb_nil, binV, intV, unV, eqlV, pureV, readV, writeV, stepK, convV_i, addrV, toArgs, toArg, anyRs, isRs, hasSl, hasSl2, hasSl1, hasSl2L, fromRet, fromRetL, fromRet1, finR, resL, resV, toRets, toRet, lentOf, one, Nat.beq, Nat.blt, Nat.ble, shiftV_shr, shiftV_shl, IntKind.bits, fillV, partV, cellsOf, AV.flat, zrep, List.getElem?_cons_zero, List.getElem?_cons_succ, List.length_cons, List.length_nil, List.set_cons_zero, List.set_cons_succ, stepsAt_some, onSome_some, onB_true, onB_false, onG_tt, onG_tf, onG_ft, onG_ff, onG_un, optPut_some, optMem_some]

/-- The parts' bounds. -/
theorem sp_cases {n g : Int} (h0 : 0 ≤ n) (h1 : n < 8380417) (h : g = 95232 ∨ g = 261888) :
    ((sp n g).1 = 0 ∧ (sp n g).2 = n - 8380417 ∧ -g ≤ (sp n g).2 ∧ (sp n g).2 < 0) ∨
    (n = (sp n g).1 * (2 * g) + (sp n g).2 ∧ -g < (sp n g).2 ∧ (sp n g).2 ≤ g ∧ 0 ≤ (sp n g).1 ∧ (sp n g).1 < 8380416 / (2 * g)) := by
  have e : n % 8380417 = n := Int.emod_eq_of_lt h0 h1
  have hn : ∀ m : Int, (nr n m = n % m - m ∧ n % m > m / 2) ∨ (nr n m = n % m ∧ ¬ n % m > m / 2) := by
    intro m
    by_cases h : n % m > m / 2
    · exact .inl ⟨by simp only [nr]; rw [if_pos h], h⟩
    · exact .inr ⟨by simp only [nr]; rw [if_neg h], h⟩
  rcases h with rfl | rfl
  · have hn := hn (2 * 95232)
    simp only [sp, e]
    generalize nr n (2 * 95232) = r at *
    split <;> (try simp only [true_and]) <;> omega
  · have hn := hn (2 * 261888)
    simp only [sp, e]
    generalize nr n (2 * 261888) = r at *
    split <;> (try simp only [true_and]) <;> omega

/-- What Use gives, by the parts. -/
def us (h : Bool) (x y m : Int) : Int := if h then (if 0 < y then (x + 1) % m else (x + m - 1) % m) else x

theorem Use_off (a : Int) {g : Int} (h : g = 95232 ∨ g = 261888) : FF tab 16 [.b false, .i .i64 a, .i .i64 g] = some ⟨.i .i64 (sp a g).1, []⟩ := by
  refine call_by (A := A16) rfl rfl ?_
  simp [A16, Split a h, ↓W_seq, ↓W_skip, ↓W_ret, ↓W_exit, ↓W_reg, ↓W_cond, ↓W_block, ↓W_pre, ↓cleanO_some, ↓freezes_nil, ↓freezes_cons, ↓frzO_some, ↓andThen_normal, ↓andThen_ret, ↓andThen_exit, ↓unblock_normal, ↓unblock_ret, ↓unblock_exit, ↓Ends_normal, ↓Ends_ret, ↓steps_nil, ↓steps_cons, ↓step_some, ↓st_move, ↓st_pick, ↓st_bin, ↓st_un, ↓st_conv, ↓st_addr, ↓st_ixA, ↓st_ixS, ↓st_fld, ↓st_ixV, ↓st_ixStr, ↓st_ext, ↓st_build, ↓st_bsl, ↓st_mkS, ↓st_mkfn, ↓st_len, ↓st_mn, ↓st_mx, ↓st_nilChk, ↓st_tas, ↓st_slc, ↓st_load, ↓st_call, ↓st_store, ↓st_box, ↓st_alloc, ↓st_mkR, ↓st_bslR, ↓st_nilR, ↓st_app, ↓st_callK, ↓stepsAt_some, ↓onSome_some, ↓onB_true, ↓onB_false, ↓onG_tt, ↓onG_tf, ↓onG_ft, ↓onG_ff, ↓onG_un, ↓optPut_some, ↓optMem_some, enterS, enterL, evalO, evalL, constAV, get_cons, get_nil, put_cons, put_nil, look_cons, look_nil, putD_some, clean_mk, freeze_mk, mapS, AV.mapR, frz1, del_cons, del_nil, kill1, keepS_cons, keepS_nil, keepL_cons, keepL_nil, memb_cons, memb_nil, binV, intV, unV, eqlV, pureV, readV, writeV, stepK, convV_i, addrV, toArgs, toArg, anyRs, isRs, hasSl, hasSl2, hasSl1, hasSl2L, fromRet, fromRetL, fromRet1, finR, resL, resV, toRets, toRet, lentOf, one, Nat.beq, Nat.blt, Nat.ble, shiftV_shr, shiftV_shl, IntKind.bits, fillV, partV, cellsOf, AV.flat, zrep, List.getElem?_cons_zero, List.getElem?_cons_succ, List.length_cons, List.length_nil, List.set_cons_zero, List.set_cons_succ, stepsAt_some, onSome_some, onB_true, onB_false, onG_tt, onG_tf, onG_ft, onG_ff, onG_un, optPut_some, optMem_some]

theorem Use_on (a : Int) {g : Int} (h : g = 95232 ∨ g = 261888) : FF tab 16 [.b true, .i .i64 a, .i .i64 g] = some ⟨.i .i64 (us true (sp a g).1 (sp a g).2 (8380416 / (2 * g))), []⟩ := by
  refine call_by (A := A16) rfl rfl ?_
  have hc := sp_cases (n := a % 8380417) (by omega) (by omega) h
  rw [sp_mod] at hc
  have hf := fair h
  have hs := Split a h
  generalize (sp a g).1 = x at *
  generalize (sp a g).2 = y at *
  rcases h with rfl | rfl
  · have c2 : Int.tdiv 8380416 190464 = 44 := rfl
    have c3 : (x + 1).tmod 44 = (x + 1) % 44 := Int.tmod_eq_emod_of_nonneg (by omega)
    have c4 : (x + 44 - 1).tmod 44 = (x + 44 - 1) % 44 := Int.tmod_eq_emod_of_nonneg (by omega)
    simp (disch := omega) [A16, hs, hf, c2, c3, c4, i64_in, ↓W_seq, ↓W_skip, ↓W_ret, ↓W_exit, ↓W_reg, ↓W_cond, ↓W_block, ↓W_pre, ↓cleanO_some, ↓freezes_nil, ↓freezes_cons, ↓frzO_some, ↓andThen_normal, ↓andThen_ret, ↓andThen_exit, ↓unblock_normal, ↓unblock_ret, ↓unblock_exit, ↓Ends_normal, ↓Ends_ret, ↓steps_nil, ↓steps_cons, ↓step_some, ↓st_move, ↓st_pick, ↓st_bin, ↓st_un, ↓st_conv, ↓st_addr, ↓st_ixA, ↓st_ixS, ↓st_fld, ↓st_ixV, ↓st_ixStr, ↓st_ext, ↓st_build, ↓st_bsl, ↓st_mkS, ↓st_mkfn, ↓st_len, ↓st_mn, ↓st_mx, ↓st_nilChk, ↓st_tas, ↓st_slc, ↓st_load, ↓st_call, ↓st_store, ↓st_box, ↓st_alloc, ↓st_mkR, ↓st_bslR, ↓st_nilR, ↓st_app, ↓st_callK, ↓stepsAt_some, ↓onSome_some, ↓onB_true, ↓onB_false, ↓onG_tt, ↓onG_tf, ↓onG_ft, ↓onG_ff, ↓onG_un, ↓optPut_some, ↓optMem_some, enterS, enterL, evalO, evalL, constAV, get_cons, get_nil, put_cons, put_nil, look_cons, look_nil, putD_some, clean_mk, freeze_mk, mapS, AV.mapR, frz1, del_cons, del_nil, kill1, keepS_cons, keepS_nil, keepL_cons, keepL_nil, memb_cons, memb_nil, binV, intV, unV, eqlV, pureV, readV, writeV, stepK, convV_i, addrV, toArgs, toArg, anyRs, isRs, hasSl, hasSl2, hasSl1, hasSl2L, fromRet, fromRetL, fromRet1, finR, resL, resV, toRets, toRet, lentOf, one, Nat.beq, Nat.blt, Nat.ble, shiftV_shr, shiftV_shl, IntKind.bits, fillV, partV, cellsOf, AV.flat, zrep, List.getElem?_cons_zero, List.getElem?_cons_succ, List.length_cons, List.length_nil, List.set_cons_zero, List.set_cons_succ, stepsAt_some, onSome_some, onB_true, onB_false, onG_tt, onG_tf, onG_ft, onG_ff, onG_un, optPut_some, optMem_some]
    refine onB_of (fun h => ?_) fun h => ?_ <;> simp [us, h]
  · have c2 : Int.tdiv 8380416 523776 = 16 := rfl
    have c3 : (x + 1).tmod 16 = (x + 1) % 16 := Int.tmod_eq_emod_of_nonneg (by omega)
    have c4 : (x + 16 - 1).tmod 16 = (x + 16 - 1) % 16 := Int.tmod_eq_emod_of_nonneg (by omega)
    simp (disch := omega) [A16, hs, hf, c2, c3, c4, i64_in, ↓W_seq, ↓W_skip, ↓W_ret, ↓W_exit, ↓W_reg, ↓W_cond, ↓W_block, ↓W_pre, ↓cleanO_some, ↓freezes_nil, ↓freezes_cons, ↓frzO_some, ↓andThen_normal, ↓andThen_ret, ↓andThen_exit, ↓unblock_normal, ↓unblock_ret, ↓unblock_exit, ↓Ends_normal, ↓Ends_ret, ↓steps_nil, ↓steps_cons, ↓step_some, ↓st_move, ↓st_pick, ↓st_bin, ↓st_un, ↓st_conv, ↓st_addr, ↓st_ixA, ↓st_ixS, ↓st_fld, ↓st_ixV, ↓st_ixStr, ↓st_ext, ↓st_build, ↓st_bsl, ↓st_mkS, ↓st_mkfn, ↓st_len, ↓st_mn, ↓st_mx, ↓st_nilChk, ↓st_tas, ↓st_slc, ↓st_load, ↓st_call, ↓st_store, ↓st_box, ↓st_alloc, ↓st_mkR, ↓st_bslR, ↓st_nilR, ↓st_app, ↓st_callK, ↓stepsAt_some, ↓onSome_some, ↓onB_true, ↓onB_false, ↓onG_tt, ↓onG_tf, ↓onG_ft, ↓onG_ff, ↓onG_un, ↓optPut_some, ↓optMem_some, enterS, enterL, evalO, evalL, constAV, get_cons, get_nil, put_cons, put_nil, look_cons, look_nil, putD_some, clean_mk, freeze_mk, mapS, AV.mapR, frz1, del_cons, del_nil, kill1, keepS_cons, keepS_nil, keepL_cons, keepL_nil, memb_cons, memb_nil, binV, intV, unV, eqlV, pureV, readV, writeV, stepK, convV_i, addrV, toArgs, toArg, anyRs, isRs, hasSl, hasSl2, hasSl1, hasSl2L, fromRet, fromRetL, fromRet1, finR, resL, resV, toRets, toRet, lentOf, one, Nat.beq, Nat.blt, Nat.ble, shiftV_shr, shiftV_shl, IntKind.bits, fillV, partV, cellsOf, AV.flat, zrep, List.getElem?_cons_zero, List.getElem?_cons_succ, List.length_cons, List.length_nil, List.set_cons_zero, List.set_cons_succ, stepsAt_some, onSome_some, onB_true, onB_false, onG_tt, onG_tf, onG_ft, onG_ff, onG_un, optPut_some, optMem_some]
    refine onB_of (fun h => ?_) fun h => ?_ <;> simp [us, h]

theorem Use_bad (h : Bool) (a : Int) {g : Int} (hg : ¬ (g = 95232 ∨ g = 261888)) : FF tab 16 [.b h, .i .i64 a, .i .i64 g] = some ⟨.i .i64 0, []⟩ := by
  refine call_by (A := A16) rfl rfl ?_
  cases h <;> simp [A16, Split_bad a hg, unfair hg, ↓W_seq, ↓W_skip, ↓W_ret, ↓W_exit, ↓W_reg, ↓W_cond, ↓W_block, ↓W_pre, ↓cleanO_some, ↓freezes_nil, ↓freezes_cons, ↓frzO_some, ↓andThen_normal, ↓andThen_ret, ↓andThen_exit, ↓unblock_normal, ↓unblock_ret, ↓unblock_exit, ↓Ends_normal, ↓Ends_ret, ↓steps_nil, ↓steps_cons, ↓step_some, ↓st_move, ↓st_pick, ↓st_bin, ↓st_un, ↓st_conv, ↓st_addr, ↓st_ixA, ↓st_ixS, ↓st_fld, ↓st_ixV, ↓st_ixStr, ↓st_ext, ↓st_build, ↓st_bsl, ↓st_mkS, ↓st_mkfn, ↓st_len, ↓st_mn, ↓st_mx, ↓st_nilChk, ↓st_tas, ↓st_slc, ↓st_load, ↓st_call, ↓st_store, ↓st_box, ↓st_alloc, ↓st_mkR, ↓st_bslR, ↓st_nilR, ↓st_app, ↓st_callK, ↓stepsAt_some, ↓onSome_some, ↓onB_true, ↓onB_false, ↓onG_tt, ↓onG_tf, ↓onG_ft, ↓onG_ff, ↓onG_un, ↓optPut_some, ↓optMem_some, enterS, enterL, evalO, evalL, constAV, get_cons, get_nil, put_cons, put_nil, look_cons, look_nil, putD_some, clean_mk, freeze_mk, mapS, AV.mapR, frz1, del_cons, del_nil, kill1, keepS_cons, keepS_nil, keepL_cons, keepL_nil, memb_cons, memb_nil, binV, intV, unV, eqlV, pureV, readV, writeV, stepK, convV_i, addrV, toArgs, toArg, anyRs, isRs, hasSl, hasSl2, hasSl1, hasSl2L, fromRet, fromRetL, fromRet1, finR, resL, resV, toRets, toRet, lentOf, one, Nat.beq, Nat.blt, Nat.ble, shiftV_shr, shiftV_shl, IntKind.bits, fillV, partV, cellsOf, AV.flat, zrep, List.getElem?_cons_zero, List.getElem?_cons_succ, List.length_cons, List.length_nil, List.set_cons_zero, List.set_cons_succ, stepsAt_some, onSome_some, onB_true, onB_false, onG_tt, onG_tf, onG_ft, onG_ff, onG_un, optPut_some, optMem_some]

theorem Use (h : Bool) (a : Int) {g : Int} (hg : g = 95232 ∨ g = 261888) : FF tab 16 [.b h, .i .i64 a, .i .i64 g] = some ⟨.i .i64 (us h (sp a g).1 (sp a g).2 (8380416 / (2 * g))), []⟩ := by
  cases h
  · rw [Use_off a hg]; simp [us]
  · exact Use_on a hg

/-- With the hint, the sum's high part. -/
theorem uses {n z g : Int} (h0 : 0 ≤ n) (h1 : n < 8380417) (hz0 : -g ≤ z) (hz1 : z ≤ g) (h : g = 95232 ∨ g = 261888) :
    us (!decide ((sp n g).1 = (sp (n + z) g).1)) (sp n g).1 (sp n g).2 (8380416 / (2 * g)) = (sp (n + z) g).1 := by
  have hc := sp_cases h0 h1 h
  have hd := sp_cases (n := (n + z) % 8380417) (by omega) (by omega) h
  rw [sp_mod] at hd
  generalize (sp n g).1 = x at *
  generalize (sp n g).2 = y at *
  generalize (sp (n + z) g).1 = x' at *
  generalize (sp (n + z) g).2 = y' at *
  have hN : (n + z) % 8380417 = n + z ∨ (n + z) % 8380417 = n + z - 8380417 ∨ (n + z) % 8380417 = n + z + 8380417 := by omega
  generalize (n + z) % 8380417 = N at *
  by_cases hx : x = x'
  · simp [us, hx]
  · simp only [us, hx, decide_false, Bool.not_false, if_true]
    rcases h with rfl | rfl
    · split <;> rcases hc with hc | hc <;> rcases hd with hd | hd <;> rcases hN with hN | hN | hN <;> omega
    · split <;> rcases hc with hc | hc <;> rcases hd with hd | hd <;> rcases hN with hN | hN | hN <;> omega

end Zab.Ythfbehemcpghaaa
