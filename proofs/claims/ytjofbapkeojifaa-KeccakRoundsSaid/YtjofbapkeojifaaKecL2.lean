/- The law KeccakRounds: what its code answers. -/
import Derived.Test.YtjofbapkeojifaaKecL
import Derived.Test.YtjofbapkeojifaaZabKecInj
namespace Zab.Ytjofbapkeojifaa
open Go
open Go.IntWalk (i64_in)
set_option maxRecDepth 100000
set_option linter.unusedSimpArgs false
set_option linter.unusedVariables false

theorem rnds_succ (L : List Ln) (k : Nat) : rnds L (k + 1) = rnd (rnds L k) (con k) := rfl
theorem rnds_zero (L : List Ln) : rnds L 0 = L := rfl
theorem rnds_inj {L M : List Ln} (hL : L.length = 25) (hM : M.length = 25) (k : Nat) (h : rnds L k = rnds M k) : L = M := by
  induction k with
  | zero => rw [rnds_zero, rnds_zero] at h; exact h
  | succ k ih =>
    rw [rnds_succ, rnds_succ] at h
    exact ih (rnd_inj (rnds_len hL k) (rnds_len hM k) h)

theorem bit_ne (x : Ln) {n : Nat} (h : n < 64) : x ^^^ ((1#64) <<< n) ≠ x := by
  intro e
  have := congrArg (fun z => BitVec.getLsbD z n) e
  simp [h] at this

set_option maxHeartbeats 4000000 in
theorem KeccakRounds (L : List Ln) (hL : L.length = 25) (l b : Int) : FF tab 5 [.ag (lanes L), .i .i64 l, .i .i64 b] = some ⟨.b true, []⟩ := by
  refine call_by (A := A5) rfl rfl ?_
  have e1 : (lanes L).length = 25 := by rw [lanes_length, hL]
  have eZ : (lanes (zL 25)).length = 25 := by rw [lanes_length, zL_len]
  have n1 := Number l 25 (by omega) (by omega)
  have n2 := Number b 64 (by omega) (by omega)
  have hl0 : 0 ≤ l % 25 ∧ l % 25 < 25 := by omega
  have hb0 : 0 ≤ b % 64 ∧ b % 64 < 64 := by omega
  generalize l % 25 = Ln' at *
  generalize b % 64 = Bn at *
  obtain ⟨j, rfl⟩ : ∃ j : Nat, Ln' = j := ⟨Ln'.toNat, by omega⟩
  obtain ⟨n, rfl⟩ : ∃ n : Nat, Bn = n := ⟨Bn.toNat, by omega⟩
  have hjn : (j : Int).toNat = j := Int.toNat_natCast _
  have wc : IntKind.u64.wrap (n : Int) = (n : Int) := by
    unfold IntKind.wrap
    simp only [IntKind.signed, IntKind.bits]
    simp
    omega
  have s1 := shl1' (show n ≤ 64 by omega)
  have hC : (L.set j (nl L j ^^^ ((1#64) <<< n))).length = 25 := by simp [hL]
  have hne : L.set j (nl L j ^^^ ((1#64) <<< n)) ≠ L := by
    intro e
    have := congrArg (fun z => nl z j) e
    rw [nl_get (by simp [hL]; omega)] at this
    simp only [List.getElem_set_self] at this
    exact bit_ne _ (by omega) this
  have p1 := Permute L hL
  have r1 := Round L hL 3
  have q1 := same (rnds L 24) (rnds L 24) (rnds_len hL _) (rnds_len hL _)
  simp only [decide_true] at q1
  have eC : (lanes L).set j (.i .u64 (iv (nl L j ^^^ ((1#64) <<< n)))) = lanes (L.set j (nl L j ^^^ ((1#64) <<< n))) := lanes_set _ _ _
  have p2 := Permute (L.set j (nl L j ^^^ ((1#64) <<< n))) hC
  have r2 := Round (L.set j (nl L j ^^^ ((1#64) <<< n))) hC 3
  have q2 := same (rnds (L.set j (nl L j ^^^ ((1#64) <<< n))) 24) (rnds L 24) (rnds_len hC _) (rnds_len hL _)
  rw [decide_eq_false (fun h => hne (rnds_inj hC hL 24 h))] at q2
  have q3 := same (rnd L (con 3)) (rnd (L.set j (nl L j ^^^ ((1#64) <<< n))) (con 3)) (rnd_len _ _) (rnd_len _ _)
  rw [decide_eq_false (fun h => hne (rnd_inj hL hC h).symm)] at q3
  have e2 : (lanes (L.set j (nl L j ^^^ ((1#64) <<< n)))).length = 25 := by rw [lanes_length, hC]
  have e3 : (lanes (rnds L 24)).length = 25 := by rw [lanes_length, rnds_len hL]
  have getj : (lanes L)[j]? = some (.i .u64 (iv (nl L j))) := lanes_get (by omega)
  generalize rnd L (con 3) = R1 at *
  generalize rnd (L.set j (nl L j ^^^ ((1#64) <<< n))) (con 3) = R2 at *
  generalize rnds (L.set j (nl L j ^^^ ((1#64) <<< n))) 24 = M2 at *
  generalize L.set j (nl L j ^^^ ((1#64) <<< n)) = C at *
  simp (disch := omega) [A5, first, ↓z25, -getElem?_pos, ↓W_seq, ↓W_skip, ↓W_ret, ↓W_exit, ↓W_reg, ↓W_cond, ↓W_block, ↓W_pre, ↓cleanO_some, ↓freezes_nil, ↓freezes_cons, ↓frzO_some, ↓andThen_normal, ↓andThen_ret, ↓andThen_exit, ↓unblock_normal, ↓unblock_ret, ↓unblock_exit, ↓Ends_normal, ↓Ends_ret, ↓steps_nil, ↓steps_cons, ↓step_some, ↓st_move, ↓st_pick, ↓st_bin, ↓st_un, ↓st_conv, ↓st_addr, ↓sv_ixA, ↓sv_ixS, ↓sv_fld, ↓sv_ixV, ↓st_ixStr, ↓st_ext, ↓sv_build, ↓sv_bsl, ↓sv_mkS, ↓st_mkfn, ↓sv_len, ↓st_len, ↓st_mn, ↓st_mx, ↓st_nilChk, ↓st_tas, ↓st_slc, ↓sv_loadg, ↓sv_load, ↓st_call, ↓sv_store, ↓sv_box, ↓sv_alloc, ↓sv_mkR, ↓st_bslR, ↓st_nilR, ↓st_app, ↓st_callK, ↓stepsAt_some, ↓onSome_some, ↓onB_true, ↓onB_false, ↓onG_tt, ↓onG_tf, ↓onG_ft, ↓onG_ff, ↓onG_un, ↓optPut_some, ↓optMem_some, enterS, enterL, evalO, evalL, constAV, get_cons, get_nil, put_cons, put_nil, look_cons, look_nil, putD_some, clean_mk, freeze_mk, mapS, AV.mapR, frz1, del_cons, del_nil, kill1, keepS_cons, keepS_nil, keepL_cons, keepL_nil, memb_cons, memb_nil, binV, intV, unV, eqlV, pureV, stepK, convV_i, addrV, toArgs, toArg, anyRs, isRs, hasSl, hasSl2, hasSl1, hasSl2L, fromRet, fromRetL, fromRet1, finR, resL, resV, toRets, toRet, lentOf, one, Nat.beq, shiftV_shr, shiftV_shl, IntKind.bits, fillV, AV.flat, List.getElem?_cons_zero, List.getElem?_cons_succ, List.length_cons, List.length_nil, List.set_cons_zero, List.set_cons_succ, dec_t, dec_f, buildV_some, bslV_some, boxS_some, root_mk, ixSV_sl, ixSV_rs, ixAV_rf, ixAV_el, ixVV_ag, fldV_ag, lenV_sl, lenV_rs, lenV_z, loadV_rf, loadV_el, loadR_some, partV_none, partV_all, partV_some, storeV_rf, setR_one, setR_all, cellsOf_ag, cellsOf_i, cellsOf_b, cellsOf_sl, cellsOf_z, cellsOf_er, cellsOf_nl, cellsOf_np, cellsOf_s, mkSV_of, mkRS_of, nums_length, nums_get, nums_set, nums_append, nums_snoc, nums_drop, nums_take, nums_zrep, nums_hasSl, bools_length, bools_get, bools_set, bools_snoc, bools_zrep, bools_hasSl, vecs_length, vecs_get, vecs_snoc, slcV_sl, idxO, idx, Nat.zero_add, Nat.mul_one, Nat.add_zero, stepsAt_some, onSome_some, onB_true, onB_false, onG_tt, onG_tf, onG_ft, onG_ff, onG_un, optPut_some, optMem_some]
  refine w_heads 24 (fun k => ⟨[(9, .i .i64 k), (8, .rf 8 0), (7, .b true), (3, .rf 3 0), (2, .i .i64 b), (1, .i .i64 l)], [(8, lanes (rnds L k)), (3, lanes L)]⟩) (by simp [rnds, -getElem?_pos, ↓W_seq, ↓W_skip, ↓W_ret, ↓W_exit, ↓W_reg, ↓W_cond, ↓W_block, ↓W_pre, ↓cleanO_some, ↓freezes_nil, ↓freezes_cons, ↓frzO_some, ↓andThen_normal, ↓andThen_ret, ↓andThen_exit, ↓unblock_normal, ↓unblock_ret, ↓unblock_exit, ↓Ends_normal, ↓Ends_ret, ↓steps_nil, ↓steps_cons, ↓step_some, ↓st_move, ↓st_pick, ↓st_bin, ↓st_un, ↓st_conv, ↓st_addr, ↓sv_ixA, ↓sv_ixS, ↓sv_fld, ↓sv_ixV, ↓st_ixStr, ↓st_ext, ↓sv_build, ↓sv_bsl, ↓sv_mkS, ↓st_mkfn, ↓sv_len, ↓st_len, ↓st_mn, ↓st_mx, ↓st_nilChk, ↓st_tas, ↓st_slc, ↓sv_loadg, ↓sv_load, ↓st_call, ↓sv_store, ↓sv_box, ↓sv_alloc, ↓sv_mkR, ↓st_bslR, ↓st_nilR, ↓st_app, ↓st_callK, ↓stepsAt_some, ↓onSome_some, ↓onB_true, ↓onB_false, ↓onG_tt, ↓onG_tf, ↓onG_ft, ↓onG_ff, ↓onG_un, ↓optPut_some, ↓optMem_some, enterS, enterL, evalO, evalL, constAV, get_cons, get_nil, put_cons, put_nil, look_cons, look_nil, putD_some, clean_mk, freeze_mk, mapS, AV.mapR, frz1, del_cons, del_nil, kill1, keepS_cons, keepS_nil, keepL_cons, keepL_nil, memb_cons, memb_nil, binV, intV, unV, eqlV, pureV, stepK, convV_i, addrV, toArgs, toArg, anyRs, isRs, hasSl, hasSl2, hasSl1, hasSl2L, fromRet, fromRetL, fromRet1, finR, resL, resV, toRets, toRet, lentOf, one, Nat.beq, shiftV_shr, shiftV_shl, IntKind.bits, fillV, AV.flat, List.getElem?_cons_zero, List.getElem?_cons_succ, List.length_cons, List.length_nil, List.set_cons_zero, List.set_cons_succ, dec_t, dec_f, buildV_some, bslV_some, boxS_some, root_mk, ixSV_sl, ixSV_rs, ixAV_rf, ixAV_el, ixVV_ag, fldV_ag, lenV_sl, lenV_rs, lenV_z, loadV_rf, loadV_el, loadR_some, partV_none, partV_all, partV_some, storeV_rf, setR_one, setR_all, cellsOf_ag, cellsOf_i, cellsOf_b, cellsOf_sl, cellsOf_z, cellsOf_er, cellsOf_nl, cellsOf_np, cellsOf_s, mkSV_of, mkRS_of, nums_length, nums_get, nums_set, nums_append, nums_snoc, nums_drop, nums_take, nums_zrep, nums_hasSl, bools_length, bools_get, bools_set, bools_snoc, bools_zrep, bools_hasSl, vecs_length, vecs_get, vecs_snoc, slcV_sl, idxO, idx, Nat.zero_add, Nat.mul_one, Nat.add_zero, stepsAt_some, onSome_some, onB_true, onB_false, onG_tt, onG_tf, onG_ft, onG_ff, onG_un, optPut_some, optMem_some]) ?_ ?_
  · intro k hk
    have hr := Round (rnds L k) (rnds_len hL k) k
    have hl : (lanes (rnds L k)).length = 25 := by rw [lanes_length, rnds_len hL]
    have hl' : (lanes (rnd (rnds L k) (con k))).length = 25 := by rw [lanes_length, rnd_len]
    have er : rnds L (k + 1) = rnd (rnds L k) (con k) := rfl
    have w1 : IntKind.i64.wrap ((k : Int) + 1) = (k : Int) + 1 := i64_in _ (by omega)
    generalize hT : (k : Int) = T at *
    generalize rnds L k = M at *
    clear eC p1 p2 r1 r2 q1 q2 q3 getj
    simp (disch := omega) [hr, hT, w1, er, hl, hl', -getElem?_pos, ↓W_seq, ↓W_skip, ↓W_ret, ↓W_exit, ↓W_reg, ↓W_cond, ↓W_block, ↓W_pre, ↓cleanO_some, ↓freezes_nil, ↓freezes_cons, ↓frzO_some, ↓andThen_normal, ↓andThen_ret, ↓andThen_exit, ↓unblock_normal, ↓unblock_ret, ↓unblock_exit, ↓Ends_normal, ↓Ends_ret, ↓steps_nil, ↓steps_cons, ↓step_some, ↓st_move, ↓st_pick, ↓st_bin, ↓st_un, ↓st_conv, ↓st_addr, ↓sv_ixA, ↓sv_ixS, ↓sv_fld, ↓sv_ixV, ↓st_ixStr, ↓st_ext, ↓sv_build, ↓sv_bsl, ↓sv_mkS, ↓st_mkfn, ↓sv_len, ↓st_len, ↓st_mn, ↓st_mx, ↓st_nilChk, ↓st_tas, ↓st_slc, ↓sv_loadg, ↓sv_load, ↓st_call, ↓sv_store, ↓sv_box, ↓sv_alloc, ↓sv_mkR, ↓st_bslR, ↓st_nilR, ↓st_app, ↓st_callK, ↓stepsAt_some, ↓onSome_some, ↓onB_true, ↓onB_false, ↓onG_tt, ↓onG_tf, ↓onG_ft, ↓onG_ff, ↓onG_un, ↓optPut_some, ↓optMem_some, enterS, enterL, evalO, evalL, constAV, get_cons, get_nil, put_cons, put_nil, look_cons, look_nil, putD_some, clean_mk, freeze_mk, mapS, AV.mapR, frz1, del_cons, del_nil, kill1, keepS_cons, keepS_nil, keepL_cons, keepL_nil, memb_cons, memb_nil, binV, intV, unV, eqlV, pureV, stepK, convV_i, addrV, toArgs, toArg, anyRs, isRs, hasSl, hasSl2, hasSl1, hasSl2L, fromRet, fromRetL, fromRet1, finR, resL, resV, toRets, toRet, lentOf, one, Nat.beq, shiftV_shr, shiftV_shl, IntKind.bits, fillV, AV.flat, List.getElem?_cons_zero, List.getElem?_cons_succ, List.length_cons, List.length_nil, List.set_cons_zero, List.set_cons_succ, dec_t, dec_f, buildV_some, bslV_some, boxS_some, root_mk, ixSV_sl, ixSV_rs, ixAV_rf, ixAV_el, ixVV_ag, fldV_ag, lenV_sl, lenV_rs, lenV_z, loadV_rf, loadV_el, loadR_some, partV_none, partV_all, partV_some, storeV_rf, setR_one, setR_all, cellsOf_ag, cellsOf_i, cellsOf_b, cellsOf_sl, cellsOf_z, cellsOf_er, cellsOf_nl, cellsOf_np, cellsOf_s, mkSV_of, mkRS_of, nums_length, nums_get, nums_set, nums_append, nums_snoc, nums_drop, nums_take, nums_zrep, nums_hasSl, bools_length, bools_get, bools_set, bools_snoc, bools_zrep, bools_hasSl, vecs_length, vecs_get, vecs_snoc, slcV_sl, idxO, idx, Nat.zero_add, Nat.mul_one, Nat.add_zero, stepsAt_some, onSome_some, onB_true, onB_false, onG_tt, onG_tf, onG_ft, onG_ff, onG_un, optPut_some, optMem_some]
  · generalize rnds L 24 = M1 at *
    generalize hJ : (j : Int) = J at *
    generalize (n : Int) = N at *
    simp (maxSteps := 1000000) (disch := omega) [↓z25, n1, n2, hjn, wc, s1, getj, bitV_xor, eC, p1, p2, r1, r2, q1, q2, q3, -getElem?_pos, ↓W_seq, ↓W_skip, ↓W_ret, ↓W_exit, ↓W_reg, ↓W_cond, ↓W_block, ↓W_pre, ↓cleanO_some, ↓freezes_nil, ↓freezes_cons, ↓frzO_some, ↓andThen_normal, ↓andThen_ret, ↓andThen_exit, ↓unblock_normal, ↓unblock_ret, ↓unblock_exit, ↓Ends_normal, ↓Ends_ret, ↓steps_nil, ↓steps_cons, ↓step_some, ↓st_move, ↓st_pick, ↓st_bin, ↓st_un, ↓st_conv, ↓st_addr, ↓sv_ixA, ↓sv_ixS, ↓sv_fld, ↓sv_ixV, ↓st_ixStr, ↓st_ext, ↓sv_build, ↓sv_bsl, ↓sv_mkS, ↓st_mkfn, ↓sv_len, ↓st_len, ↓st_mn, ↓st_mx, ↓st_nilChk, ↓st_tas, ↓st_slc, ↓sv_loadg, ↓sv_load, ↓st_call, ↓sv_store, ↓sv_box, ↓sv_alloc, ↓sv_mkR, ↓st_bslR, ↓st_nilR, ↓st_app, ↓st_callK, ↓stepsAt_some, ↓onSome_some, ↓onB_true, ↓onB_false, ↓onG_tt, ↓onG_tf, ↓onG_ft, ↓onG_ff, ↓onG_un, ↓optPut_some, ↓optMem_some, enterS, enterL, evalO, evalL, constAV, get_cons, get_nil, put_cons, put_nil, look_cons, look_nil, putD_some, clean_mk, freeze_mk, mapS, AV.mapR, frz1, del_cons, del_nil, kill1, keepS_cons, keepS_nil, keepL_cons, keepL_nil, memb_cons, memb_nil, binV, intV, unV, eqlV, pureV, stepK, convV_i, addrV, toArgs, toArg, anyRs, isRs, hasSl, hasSl2, hasSl1, hasSl2L, fromRet, fromRetL, fromRet1, finR, resL, resV, toRets, toRet, lentOf, one, Nat.beq, shiftV_shr, shiftV_shl, IntKind.bits, fillV, AV.flat, List.getElem?_cons_zero, List.getElem?_cons_succ, List.length_cons, List.length_nil, List.set_cons_zero, List.set_cons_succ, dec_t, dec_f, buildV_some, bslV_some, boxS_some, root_mk, ixSV_sl, ixSV_rs, ixAV_rf, ixAV_el, ixVV_ag, fldV_ag, lenV_sl, lenV_rs, lenV_z, loadV_rf, loadV_el, loadR_some, partV_none, partV_all, partV_some, storeV_rf, setR_one, setR_all, cellsOf_ag, cellsOf_i, cellsOf_b, cellsOf_sl, cellsOf_z, cellsOf_er, cellsOf_nl, cellsOf_np, cellsOf_s, mkSV_of, mkRS_of, nums_length, nums_get, nums_set, nums_append, nums_snoc, nums_drop, nums_take, nums_zrep, nums_hasSl, bools_length, bools_get, bools_set, bools_snoc, bools_zrep, bools_hasSl, vecs_length, vecs_get, vecs_snoc, slcV_sl, idxO, idx, Nat.zero_add, Nat.mul_one, Nat.add_zero, stepsAt_some, onSome_some, onB_true, onB_false, onG_tt, onG_tf, onG_ft, onG_ff, onG_un, optPut_some, optMem_some]
end Zab.Ytjofbapkeojifaa
