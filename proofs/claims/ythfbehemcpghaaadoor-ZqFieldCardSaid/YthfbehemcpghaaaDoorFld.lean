/- The law ZqField: what its code answers. -/
import Derived.Test.YthfbehemcpghaaaDoorPow
import Derived.Test.YthfbehemcpghaaaDoorZabFermat
import Derived.Test.YthfbehemcpghaaaDoorZabVal
namespace Zab.YthfbehemcpghaaaDoor
open Go
open Go.IntWalk (i64_in)
set_option maxRecDepth 100000
set_option linter.unusedSimpArgs false
set_option linter.unusedVariables false

theorem Right.pr {p : Int} (h : Right p) : Fermat.Pr p.toNat := by
  rcases h with rfl | rfl | rfl | rfl | rfl | rfl | rfl
  · exact Fermat.pr17
  · exact Fermat.pr97
  · exact Fermat.pr257
  · exact Fermat.pr3329
  · exact Fermat.pr7681
  · exact Fermat.pr12289
  · exact Fermat.pr8380417

def PL : List AV := [.i .i64 17, .i .i64 97, .i .i64 257, .i .i64 3329, .i .i64 7681, .i .i64 12289, .i .i64 8380417]
theorem PrimesL : FF tab 7 [] = some ⟨.sl PL 7, []⟩ := Primes
theorem PL_len : PL.length = 7 := rfl
theorem PL_at (k : Int) : ∃ p, Right p ∧ PL[(k % 7).toNat]? = some (.i .i64 p) := by
  have hk : k % 7 = 0 ∨ k % 7 = 1 ∨ k % 7 = 2 ∨ k % 7 = 3 ∨ k % 7 = 4 ∨ k % 7 = 5 ∨ k % 7 = 6 := by omega
  rcases hk with e | e | e | e | e | e | e <;> rw [e] <;> exact ⟨_, by unfold Right; omega, rfl⟩

theorem Pow_self (a : Int) {p : Int} (h : Right p) : FF tab 10 [.i .i64 a, .i .i64 p, .i .i64 p] = some ⟨.i .i64 (a % p), []⟩ := by
  have lo := h.lo
  have hi := h.hi
  rw [Pow a h (by omega) (by omega)]
  have := Fermat.fermat h.pr a
  have e : (p.toNat : Int) = p := Int.toNat_of_nonneg (by omega)
  rw [e] at this
  rw [this]

theorem Inv_ok (a : Int) {p : Int} (h : Right p) (ha : a % p ≠ 0) : a * (a ^ (p - 2).toNat % p) % p = 1 := by
  have lo := h.lo
  have e : (p.toNat : Int) = p := Int.toNat_of_nonneg (by omega)
  have := Fermat.inv_ok h.pr (a := a) (by rw [e]; exact ha)
  rw [e, show p.toNat - 2 = (p - 2).toNat by omega] at this
  exact this

set_option maxHeartbeats 4000000 in
theorem ZqField (k a b c : Int) : FF tab 4 [.i .i64 k, .i .i64 a, .i .i64 b, .i .i64 c] = some ⟨.b true, []⟩ := by
  have hK := Number k 7 (by omega) (by omega)
  obtain ⟨p, hR, hp⟩ := PL_at k
  have hk : 0 ≤ k % 7 ∧ k % 7 < 7 := by omega
  generalize k % 7 = K at *
  obtain ⟨k0, k1⟩ := hk
  have k2 : K.toNat < 7 := by omega
  have k3 : PL.length = 7 := rfl
  refine call_by (A := A4) rfl rfl ?_
  have lo := hR.lo
  have hi := hR.hi
  have f1 : (b + a) % p = (a + b) % p := by rw [Int.add_comm]
  have f2 : (b * a) % p = (a * b) % p := by rw [Int.mul_comm]
  have f3 : ((a + b) % p - b) % p = a % p := by rw [Int.emod_sub_emod]; congr 1; omega
  have f4 : ((a + b) % p + c) % p = (a + b + c) % p := by rw [Int.emod_add_emod]
  have f5 : (a + (b + c) % p) % p = (a + b + c) % p := by rw [Int.add_emod_emod]; congr 1; omega
  have f6 : (a * b % p * c) % p = (a * b * c) % p := by rw [Int.mul_emod, Int.emod_emod, ← Int.mul_emod]
  have f7 : (a * (b * c % p)) % p = (a * b * c) % p := by rw [Int.mul_emod, Int.emod_emod, ← Int.mul_emod, Int.mul_assoc]
  have f8 : (c * ((a + b) % p)) % p = (c * a + c * b) % p := by rw [Int.mul_emod, Int.emod_emod, ← Int.mul_emod, Int.mul_add]
  have f9 : (c * a % p + c * b % p) % p = (c * a + c * b) % p := by rw [← Int.add_emod]
  have p1 := Add a b hR
  have p2 := Add b a hR
  have p3 := Mul a b hR
  have p4 := Mul b a hR
  have p5 := Sub ((a + b) % p) b hR
  have p6 := Mod a hR
  have p7 := Add ((a + b) % p) c hR
  have p8 := Add b c hR
  have p9 := Add a ((b + c) % p) hR
  have p10 := Mul (a * b % p) c hR
  have p11 := Mul b c hR
  have p12 := Mul a (b * c % p) hR
  have p13 := Mul c ((a + b) % p) hR
  have p14 := Mul c a hR
  have p15 := Mul c b hR
  have p16 := Add (c * a % p) (c * b % p) hR
  have p17 := Pow_self a hR
  have p18 := Inv a hR
  have p19 := Mod b hR
  rw [f1] at p2
  rw [f2] at p4
  rw [f3] at p5
  rw [f4] at p7
  rw [f5] at p9
  rw [f6] at p10
  rw [f7] at p12
  rw [f8] at p13
  rw [f9] at p16
  by_cases h0 : a % p = 0
  · rw [if_pos h0] at p18
    rw [h0] at p6 p17 p5
    generalize (a + b) % p = x1 at *
    generalize (a * b) % p = x2 at *
    generalize (a + b + c) % p = x3 at *
    generalize (a * b * c) % p = x4 at *
    generalize (c * a + c * b) % p = x5 at *
    generalize (c * a) % p = x6 at *
    generalize (c * b) % p = x7 at *
    generalize (b + c) % p = x8 at *
    generalize (b * c) % p = x9 at *
    simp (maxSteps := 1000000) (disch := omega) [A4, first, PrimesL, hK, hp, p1, p2, p3, p4, p5, p6, p7, p8, p9, p10, p11, p12, p13, p14, p15, p16, p17, p18, p19, -getElem?_pos, ↓W_seq, ↓W_skip, ↓W_ret, ↓W_exit, ↓W_reg, ↓W_cond, ↓W_block, ↓W_pre, ↓cleanO_some, ↓freezes_nil, ↓freezes_cons, ↓frzO_some, ↓andThen_normal, ↓andThen_ret, ↓andThen_exit, ↓unblock_normal, ↓unblock_ret, ↓unblock_exit, ↓Ends_normal, ↓Ends_ret, ↓steps_nil, ↓steps_cons, ↓step_some, ↓st_move, ↓st_pick, ↓st_bin, ↓st_un, ↓st_conv, ↓st_addr, ↓sv_ixA, ↓sv_ixS, ↓sv_fld, ↓sv_ixV, ↓st_ixStr, ↓st_ext, ↓sv_build, ↓sv_bsl, ↓sv_mkS, ↓st_mkfn, ↓sv_len, ↓st_len, ↓st_mn, ↓st_mx, ↓st_nilChk, ↓st_tas, ↓st_slc, ↓sv_loadg, ↓sv_load, ↓st_call, ↓sv_store, ↓sv_box, ↓sv_alloc, ↓sv_mkR, ↓st_bslR, ↓st_nilR, ↓st_app, ↓st_callK, ↓stepsAt_some, ↓onSome_some, ↓onB_true, ↓onB_false, ↓onG_tt, ↓onG_tf, ↓onG_ft, ↓onG_ff, ↓onG_un, ↓optPut_some, ↓optMem_some, enterS, enterL, evalO, evalL, constAV, get_cons, get_nil, put_cons, put_nil, look_cons, look_nil, putD_some, clean_mk, freeze_mk, mapS, AV.mapR, frz1, del_cons, del_nil, kill1, keepS_cons, keepS_nil, keepL_cons, keepL_nil, memb_cons, memb_nil, binV, intV, unV, eqlV, pureV, stepK, convV_i, addrV, toArgs, toArg, anyRs, isRs, hasSl, hasSl2, hasSl1, hasSl2L, fromRet, fromRetL, fromRet1, finR, resL, resV, toRets, toRet, lentOf, one, Nat.beq, shiftV_shr, shiftV_shl, IntKind.bits, fillV, AV.flat, List.getElem?_cons_zero, List.getElem?_cons_succ, List.length_cons, List.length_nil, List.set_cons_zero, List.set_cons_succ, buildV_some, bslV_some, boxS_some, root_mk, ixSV_sl, ixSV_rs, ixAV_rf, ixAV_el, ixVV_ag, fldV_ag, lenV_sl, lenV_rs, lenV_z, loadV_rf, loadV_el, loadR_some, partV_none, partV_all, partV_some, storeV_rf, setR_one, setR_all, cellsOf_ag, cellsOf_i, cellsOf_b, cellsOf_sl, cellsOf_z, cellsOf_er, cellsOf_nl, cellsOf_np, cellsOf_s, mkSV_of, mkRS_of, nums_length, nums_get, nums_set, nums_append, nums_snoc, nums_drop, nums_take, nums_zrep, nums_hasSl, bools_length, bools_get, bools_set, bools_snoc, bools_zrep, bools_hasSl, vecs_length, vecs_get, vecs_snoc, slcV_sl, idxO, idx, Nat.zero_add, Nat.mul_one, Nat.add_zero, stepsAt_some, onSome_some, onB_true, onB_false, onG_tt, onG_tf, onG_ft, onG_ff, onG_un, optPut_some, optMem_some]
  · rw [if_neg h0] at p18
    have g1 := Inv_ok a hR h0
    have p20 := Mul a (a ^ (p - 2).toNat % p) hR
    rw [g1] at p20
    have p21 := Mul (a ^ (p - 2).toNat % p) (a * b % p) hR
    have g2 : (a ^ (p - 2).toNat % p) * (a * b % p) % p = b % p := by
      rw [Int.mul_emod, Int.emod_emod (a * b), ← Int.mul_emod, ← Int.mul_assoc, Int.mul_comm _ a, Int.mul_emod, g1, Int.one_mul, Int.emod_emod]
    rw [g2] at p21
    generalize a % p = x0 at *
    generalize (a + b) % p = x1 at *
    generalize (a * b) % p = x2 at *
    generalize (a + b + c) % p = x3 at *
    generalize (a * b * c) % p = x4 at *
    generalize (c * a + c * b) % p = x5 at *
    generalize (c * a) % p = x6 at *
    generalize (c * b) % p = x7 at *
    generalize (b + c) % p = x8 at *
    generalize (b * c) % p = x9 at *
    generalize a ^ (p - 2).toNat % p = x10 at *
    generalize b % p = x11 at *
    simp (maxSteps := 1000000) (disch := omega) [A4, first, PrimesL, hK, hp, h0, p1, p2, p3, p4, p5, p6, p7, p8, p9, p10, p11, p12, p13, p14, p15, p16, p17, p18, p19, p20, p21, -getElem?_pos, ↓W_seq, ↓W_skip, ↓W_ret, ↓W_exit, ↓W_reg, ↓W_cond, ↓W_block, ↓W_pre, ↓cleanO_some, ↓freezes_nil, ↓freezes_cons, ↓frzO_some, ↓andThen_normal, ↓andThen_ret, ↓andThen_exit, ↓unblock_normal, ↓unblock_ret, ↓unblock_exit, ↓Ends_normal, ↓Ends_ret, ↓steps_nil, ↓steps_cons, ↓step_some, ↓st_move, ↓st_pick, ↓st_bin, ↓st_un, ↓st_conv, ↓st_addr, ↓sv_ixA, ↓sv_ixS, ↓sv_fld, ↓sv_ixV, ↓st_ixStr, ↓st_ext, ↓sv_build, ↓sv_bsl, ↓sv_mkS, ↓st_mkfn, ↓sv_len, ↓st_len, ↓st_mn, ↓st_mx, ↓st_nilChk, ↓st_tas, ↓st_slc, ↓sv_loadg, ↓sv_load, ↓st_call, ↓sv_store, ↓sv_box, ↓sv_alloc, ↓sv_mkR, ↓st_bslR, ↓st_nilR, ↓st_app, ↓st_callK, ↓stepsAt_some, ↓onSome_some, ↓onB_true, ↓onB_false, ↓onG_tt, ↓onG_tf, ↓onG_ft, ↓onG_ff, ↓onG_un, ↓optPut_some, ↓optMem_some, enterS, enterL, evalO, evalL, constAV, get_cons, get_nil, put_cons, put_nil, look_cons, look_nil, putD_some, clean_mk, freeze_mk, mapS, AV.mapR, frz1, del_cons, del_nil, kill1, keepS_cons, keepS_nil, keepL_cons, keepL_nil, memb_cons, memb_nil, binV, intV, unV, eqlV, pureV, stepK, convV_i, addrV, toArgs, toArg, anyRs, isRs, hasSl, hasSl2, hasSl1, hasSl2L, fromRet, fromRetL, fromRet1, finR, resL, resV, toRets, toRet, lentOf, one, Nat.beq, shiftV_shr, shiftV_shl, IntKind.bits, fillV, AV.flat, List.getElem?_cons_zero, List.getElem?_cons_succ, List.length_cons, List.length_nil, List.set_cons_zero, List.set_cons_succ, buildV_some, bslV_some, boxS_some, root_mk, ixSV_sl, ixSV_rs, ixAV_rf, ixAV_el, ixVV_ag, fldV_ag, lenV_sl, lenV_rs, lenV_z, loadV_rf, loadV_el, loadR_some, partV_none, partV_all, partV_some, storeV_rf, setR_one, setR_all, cellsOf_ag, cellsOf_i, cellsOf_b, cellsOf_sl, cellsOf_z, cellsOf_er, cellsOf_nl, cellsOf_np, cellsOf_s, mkSV_of, mkRS_of, nums_length, nums_get, nums_set, nums_append, nums_snoc, nums_drop, nums_take, nums_zrep, nums_hasSl, bools_length, bools_get, bools_set, bools_snoc, bools_zrep, bools_hasSl, vecs_length, vecs_get, vecs_snoc, slcV_sl, idxO, idx, Nat.zero_add, Nat.mul_one, Nat.add_zero, stepsAt_some, onSome_some, onB_true, onB_false, onG_tt, onG_tf, onG_ft, onG_ff, onG_un, optPut_some, optMem_some]

end Zab.YthfbehemcpghaaaDoor
