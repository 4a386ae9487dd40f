/- A number below a bound. -/
import Derived.Test.YtjofbapkeojifaaZabFor
import Derived.Test.YtjofbapkeojifaaAbs
namespace Zab.Ytjofbapkeojifaa
open Go
open Go.IntWalk (i64_in)
set_option maxRecDepth 100000
set_option linter.unusedSimpArgs false
set_option linter.unusedVariables false

/-- From 0 to below a bound. -/
theorem Number (a m : Int) (hm : 0 < m) (hm2 : m ≤ 4611686018427387904) : FF tab 7 [.i .i64 a, .i .i64 m] = some ⟨.i .i64 (a % m), []⟩ := by
  refine call_by (A := A7) rfl rfl ?_
  have h0 : m ≠ 0 := by omega
  simp [A7, h0, ↓W_seq, ↓W_skip, ↓W_ret, ↓W_exit, ↓W_reg, ↓W_cond, ↓W_block, ↓W_pre, ↓cleanO_some, ↓freezes_nil, ↓freezes_cons, ↓frzO_some, ↓andThen_normal, ↓andThen_ret, ↓andThen_exit, ↓unblock_normal, ↓unblock_ret, ↓unblock_exit, ↓Ends_normal, ↓Ends_ret, ↓steps_nil, ↓steps_cons, ↓step_some, ↓st_move, ↓st_pick, ↓st_bin, ↓st_un, ↓st_conv, ↓st_addr, ↓st_ixA, ↓st_ixS, ↓st_fld, ↓st_ixV, ↓st_ixStr, ↓st_ext, ↓st_build, ↓st_bsl, ↓st_mkS, ↓st_mkfn, ↓st_len, ↓st_mn, ↓st_mx, ↓st_nilChk, ↓st_tas, ↓st_slc, ↓st_load, ↓st_call, ↓st_store, ↓st_box, ↓st_alloc, ↓st_mkR, ↓st_bslR, ↓st_nilR, ↓st_app, ↓st_callK, ↓stepsAt_some, ↓onSome_some, ↓onB_true, ↓onB_false, ↓onG_tt, ↓onG_tf, ↓onG_ft, ↓onG_ff, ↓onG_un, ↓optPut_some, ↓optMem_some, enterS, enterL, evalO, evalL, constAV, get_cons, get_nil, put_cons, put_nil, look_cons, look_nil, putD_some, clean_mk, freeze_mk, mapS, AV.mapR, frz1, del_cons, del_nil, kill1, keepS_cons, keepS_nil, keepL_cons, keepL_nil, memb_cons, memb_nil, binV, intV, unV, eqlV, pureV, readV, writeV, stepK, convV_i, addrV, toArgs, toArg, anyRs, isRs, hasSl, hasSl2, hasSl1, hasSl2L, fromRet, fromRetL, fromRet1, finR, resL, resV, toRets, toRet, lentOf, one, Nat.beq, Nat.blt, Nat.ble, shiftV_shr, shiftV_shl, IntKind.bits, fillV, partV, cellsOf, AV.flat, zrep, List.getElem?_cons_zero, List.getElem?_cons_succ, List.length_cons, List.length_nil, List.set_cons_zero, List.set_cons_succ, stepsAt_some, onSome_some, onB_true, onB_false, onG_tt, onG_tf, onG_ft, onG_ff, onG_un, optPut_some, optMem_some]
  have h1 := Int.emod_nonneg a h0
  have h2 := Int.emod_lt_of_pos a hm
  have h3 := Int.emod_nonneg (-a) h0
  have h4 := Int.emod_lt_of_pos (-a) hm
  have e : (-a) % m = if a % m = 0 then 0 else m - a % m := by
    split
    · rename_i h
      exact Int.emod_eq_zero_of_dvd (Int.dvd_neg.2 (Int.dvd_of_emod_eq_zero h))
    · rename_i hne
      have h5 : (-a) = (m - a % m) + m * (-(a / m) - 1) := by
        have := Int.mul_ediv_add_emod a m
        have e1 : m * (-(a / m) - 1) = -(m * (a / m)) - m := by rw [Int.mul_sub, Int.mul_neg]; omega
        omega
      rw [h5, Int.add_mul_emod_self_left]
      exact Int.emod_eq_of_lt (by omega) (by omega)
  refine onB_of (fun h => ?_) fun h => ?_
  · rw [tmod_eq] at *
    split at h
    · omega
    · rw [if_neg (by omega), i64_in _ (by split at e <;> omega)]
      split at e <;> omega
  · rw [tmod_eq] at *
    split at h
    · rw [if_pos (by omega)]
    · rw [if_neg (by omega)]
      split at e <;> omega
end Zab.Ytjofbapkeojifaa
