/- What the functions of the fourth chapter give back: the permutation, in the program's words. -/
import Derived.Test.YtngoidkconngmaaDoorZabG8
import Derived.KernelRfl
import Derived.Test.YtngoidkconngmaaDoorHAbs
namespace Zab.YtngoidkconngmaaDoorH
open Go
open Go.IntWalk (i64_in)
set_option maxRecDepth 100000
set_option linter.unusedSimpArgs false
set_option linter.unusedVariables false
attribute [-simp] getElem?_pos
attribute [local simp ↓] W_loop W_seq W_skip W_ret W_exit W_reg W_cond W_block W_pre cleanO_some freezes_nil freezes_cons frzO_some andThen_normal andThen_ret andThen_exit unblock_normal unblock_ret unblock_exit Ends_normal Ends_ret steps_nil steps_cons step_some st_move st_pick st_bin st_un st_conv st_addr sv_ixA sv_ixS sv_fld sv_ixV st_ixStr st_ext sv_build sv_bsl sv_mkS st_mkfn sv_lenS sv_len st_mn st_mx st_nilChk st_cap st_mki st_boxE st_buildQ sv_boxQ sv_allocQ sv_appN st_tas st_slc sv_ldE sv_ldg sv_loadg sv_load st_call sv_store sv_box sv_alloc sv_mkR sv_bslR sv_nilR sv_app sv_callK stepsAt_some onSome_some onB_true onB_false onG_tt onG_tf onG_ft onG_ff onG_un optPut_some optMem_some
attribute [local simp] evalO evalL constAV get_cons get_nil put_cons put_nil look_cons look_nil putD_some clean_mk freeze_mk mapS del_cons del_nil keepS_cons keepS_nil keepL_cons keepL_nil memb_cons memb_nil unV pureV convV_i addrV toArgs anyRs hasSl2L finR resL resV one shiftV_shr shiftV_shl IntKind.bits fillV List.getElem?_cons_zero List.getElem?_cons_succ List.length_cons List.length_nil List.set_cons_zero List.set_cons_succ setR2 setR3 zrep_eqs binV_i binI_shl binI_shr binI_eqs binV_eqs binV_slcE binV_slcN lends_nil seesAny_no callK1_fn callK2_some callK3_some recvPut_some hasSlLL_nil hasSlLL_cons recv_os recv_op recv_no recvV_some recv_tp srcV_rs srcR_some List.append_nil intV_quo intV_rem hasSlL mapR_eqs kill1_eqs frz1_eqs isRs_eqs toArg_eqs from1_eqs from_eqs toRet_eqs countR_eqs hasSl1_eqs hasSl2_eqs hasSl_eqs cellsOf_ag1 cellsOf_ag2 cellsOf_ag3 cellsOf_ag4 cellsOf_ag5 partV_2 partV_3 partV_4 partV_5 ownR_of seenR_all seenR_part appS_rs appR_of srcV_sl srcV_z nilS_z bslS_some dec_t dec_f buildV_some bslV_some boxS_some root_mk ixSV_sl ixSV_rs ixAV_rf ixAV_el ixVV_ag fldV_ag lenV_sl lenV_rs lenV_z lenSV_s loadV_rf loadV_el ldEV_el loadR_some partV_none partV_all partV_some storeV_rf setR_one setR_all cellsOf_ag cellsOf_i cellsOf_b cellsOf_sl cellsOf_z cellsOf_er cellsOf_nl cellsOf_np cellsOf_s mkSV_of mkRS_of fl_map fl_kill fl_frz fl_toArg fl_isRs fl_toRet fl_from1 fl_from fl_cells fl_countR nums_length nums_get nums_set nums_append nums_snoc nums_drop nums_take nums_zrep nums_hasSl bools_length bools_get bools_set bools_snoc bools_zrep bools_hasSl vecs_length vecs_get vecs_snoc slcV_sl idxO idx Nat.zero_add Nat.mul_one Nat.add_zero nbeq_dec nble_dec nblt_dec special_nil special_cons mapQ_nil mapQ_cons frzR_some fillQ boxEV_some buildQV_some allPlain_nil allPlain_cons plain_eqs flat_eqs cellQ_eqs loadQ_some partQ_none partQ_some partF_t partF_f allFlat_nil allFlat_cons allQ_nil allQ_cons fldV_aq cellsQ_ag cellsQ_aq cellsQ_eqs cellsOf_ie enterS_nil enterS_cons enterL_nil enterL_cons partsN_nil partsN_cons partRows_nil partRows_cons scatL_nil scatL_cons rowsL_nil rowsL_cons keys_nil keys_cons rootsP_nil rootsP_cons rootsIn_nil rootsIn_cons childP_nil childP_cons childIn_nil childIn_cons okEnter_nil okEnter_cons nodupB_nil nodupB_cons allRoot_nil allRoot_cons noRoots_nil noRoots_cons apart_nil apart_cons allCh_nil allCh_cons kindsOk_nil kindsOk_cons rootB_eq chB_eq isRef_eq child_eq partId_eq okFin_eq slotOf_eqs partN_eqs lentRows_eqs argRows_eqs scat1_eqs rows1_eqs rootsR_eqs rootsA_eqs childR_eqs childA_eqs isRs0_eqs anyRs0_nil anyRs0_cons viewR_look agV_some consV_some consO_some viewL_nil viewL_rs viewL_fl frzP_nil frzP_os frzP_fl from1_op tpV_some fromRetL_nil fromRetL_cons gathL_nil gathC_some gathL_eq gathF_some gathS_some gath1_rf gath1_rs gath1_eqs ownR_ch ownR_cut retQ_some retA_some retN_some retF_some toRet_rf toRets_nil retC_some toRets_cons lentF_some lentG_some lentQ_some lentC_some lentR_op lentR_oq lentA_op lentA_oq lentParts_nil lentParts_cons lentOf_nil lentOf_cons lentR_eqs lentA_eqs countR_nil hasSlC_eqs hasSlCL_nil hasSlCL_cons sees0_nil seesAny_nil namesNot_nil sees0_eqs seesAny_eqs namesNot_eqs sees0_no lendG_some lendF_some lendP_rf lend1_rf lendV_some lendP_rs lend1_rs lendT_some lendPL_nil lendPL_cons lends_eq lendA_nil lendA_cons lendN_some lendP_eqs lend1_eqs putRows_nil putRows_cons kills_nil kills_cons putRS_mk takeRows_nil takeRows_cons rootAt_mk nilsC_some nilsOf_nil nilsOf_cons nilsX_z rootQ_eq rootR_some boxQS_some appR_cut appNS_of recvD_some recvD_none callK4_some backL_nil backC_some backL_cons afterB_some afterK_nil afterK_cons stays_cons staysB_some stays_nil nums_hasSlC bools_hasSlC recv_seven recvR_some recv_oq recv_aq recv_fn recv_ag recv_sl recv_z recv_np recv_nl recv_er recv_ie recv_fl recvT3_some recvT2_some recvT_some take1_os take1_op take1_oq take1_aq take1_fn take1_eqs notTp_eqs fl_slot fl_argRows fl_partN fl_lentRows fl_scat fl_rows1 fl_lentA fl_lentR fl_rootsA fl_rootsR fl_childA fl_childR fl_lendP fl_lend1 fl_isRs0 fl_gath fl_cellQ fl_cellsQ fl_take1 fl_sees0 fl_seesAny fl_namesNot fl_plain List.map_cons List.map_nil List.isEmpty_nil List.isEmpty_cons stepsAt_some onSome_some onB_true onB_false onG_tt onG_tf onG_ft onG_ff onG_un optPut_some optMem_some

theorem RotL (x : Ln) {n : Nat} (h : n < 64) : FF tab 196 [.i .u64 (iv x), .i .i64 (n : Int)] = some ⟨.i .u64 (iv (rot x n)), []⟩ := by
  refine call_by (A := A196) rfl rfl ?_
  have e1 : IntKind.u64.wrap (n : Int) = (n : Int) := by
    unfold IntKind.wrap
    simp only [IntKind.signed, IntKind.bits]
    simp
    omega
  have e2 : bitV .and .u64 (n : Int) 63 = some (.i .u64 (n : Int)) := by
    have e : (n : Int) = iv (BitVec.ofNat 64 n) := by unfold iv; simp; omega
    rw [show (63 : Int) = iv 63#64 from rfl]
    conv => lhs; rw [e]
    rw [bitV_and]
    congr 2
    have : ((BitVec.ofNat 64 n) &&& 63#64).toNat = n := by
      rw [BitVec.toNat_and]
      simp only [BitVec.toNat_ofNat]
      rw [Nat.mod_eq_of_lt (by omega), show (63 % 2 ^ 64) = 2 ^ 6 - 1 from rfl, Nat.and_two_pow_sub_one_eq_mod]
      omega
    exact congrArg _ this
  have e3 : IntKind.u64.wrap (64 - (n : Int)) = ((64 - n : Nat) : Int) := by
    unfold IntKind.wrap
    simp only [IntKind.signed, IntKind.bits]
    simp
    omega
  simp (disch := omega) [A196, e1, e2, e3, shl_u64 x (show n ≤ 64 by omega), shr_u64 x (show 64 - n ≤ 64 by omega), bitV_or]
  rfl

theorem ab_bound : ∀ t, 0 ≤ (ab t).1 ∧ (ab t).1 < 5 ∧ 0 ≤ (ab t).2 ∧ (ab t).2 < 5
  | 0 => by simp [ab]
  | t + 1 => by
    obtain ⟨h1, h2, h3, h4⟩ := ab_bound t
    simp only [ab]
    omega

theorem Turn (x y : Int) : FF tab 197 [.i .i64 x, .i .i64 y] = some ⟨.i .i64 (turn x y), []⟩ := by
  refine call_by (A := A197) rfl rfl ?_
  simp (disch := omega) [A197]
  refine w_headsP 24 (fun i => ⟨[(8, .i .i64 i), (6, .i .i64 (ab i).2), (5, .i .i64 (ab i).1), (1, .i .i64 y), (0, .i .i64 x)], []⟩) (fun i => turn x y = turnF x y i (24 - i)) (by simp [ab]) rfl ?_ ?_
  · intro i hi hp
    obtain ⟨h1, h2, h3, h4⟩ := ab_bound i
    have e : 24 - i = (24 - (i + 1)) + 1 := by omega
    rw [e, turnF] at hp
    have hlt : (i : Int) < 24 := by omega
    have w1 : IntKind.i64.wrap ((i : Int) + 1) = (i : Int) + 1 := i64_in _ (by omega)
    have w2 : IntKind.i64.wrap ((i : Int) + 2) = (i : Int) + 2 := i64_in _ (by omega)
    have w3 : IntKind.i64.wrap (2 * (ab i).1) = 2 * (ab i).1 := i64_in _ (by omega)
    have w4 : IntKind.i64.wrap (3 * (ab i).2) = 3 * (ab i).2 := i64_in _ (by omega)
    have w5 : IntKind.i64.wrap (2 * (ab i).1 + 3 * (ab i).2) = 2 * (ab i).1 + 3 * (ab i).2 := i64_in _ (by omega)
    have w6 : (2 * (ab i).1 + 3 * (ab i).2).tmod 5 = (2 * (ab i).1 + 3 * (ab i).2) % 5 := Int.tmod_eq_emod_of_nonneg (by omega)
    by_cases ha : (ab i).1 = x
    · by_cases hb : (ab i).2 = y
      · rw [if_pos ⟨ha, hb⟩] at hp
        have k1 : ((i : Int) + 1) * ((i : Int) + 2) ≤ 24 * 25 := Int.mul_le_mul (by omega) (by omega) (by omega) (by omega)
        have k0 : 0 ≤ ((i : Int) + 1) * ((i : Int) + 2) := Int.mul_nonneg (by omega) (by omega)
        have w7 : IntKind.i64.wrap (((i : Int) + 1) * ((i : Int) + 2)) = ((i : Int) + 1) * ((i : Int) + 2) := i64_in _ (by omega)
        have w8 : (((i : Int) + 1) * ((i : Int) + 2)).tdiv 2 = ((i : Int) + 1) * ((i : Int) + 2) / 2 := Int.tdiv_eq_ediv_of_nonneg k0
        have w9 : IntKind.i64.wrap (((i : Int) + 1) * ((i : Int) + 2) / 2) = ((i : Int) + 1) * ((i : Int) + 2) / 2 := i64_in _ (by omega)
        have w10 : (((i : Int) + 1) * ((i : Int) + 2) / 2).tmod 64 = ((i : Int) + 1) * ((i : Int) + 2) / 2 % 64 := Int.tmod_eq_emod_of_nonneg (by omega)
        simp [hlt, ha, hb, w1, w2, w7, w8, w9, w10]
        rw [hp]; rfl
      · rw [if_neg (fun h => hb h.2)] at hp
        simp [hlt, ha, hb]
        rw [ha] at w3 w5 w6
        simp [w1, w3, w4, w5, w6]
        exact ⟨by simp [ab, ha], by rw [hp]; congr 1; omega⟩
    · rw [if_neg (fun h => ha h.1)] at hp
      simp [hlt, ha, w1, w3, w4, w5, w6]
      exact ⟨⟨rfl, rfl⟩, by rw [hp]; congr 1; omega⟩
  · intro hp
    simp []
    rw [hp]; rfl

theorem turn_ok : ∀ x y : Nat, x < 5 → y < 5 → turn x y = (tn x y : Int) ∧ tn x y < 64 := by
  intro x y hx hy
  have h : ∀ a : Fin 5, ∀ b : Fin 5, turn (a.val : Int) (b.val : Int) = (tn a.val b.val : Int) ∧ tn a.val b.val < 64 := by decide +kernel
  exact h ⟨x, hx⟩ ⟨y, hy⟩

set_option maxHeartbeats 4000000 in
theorem Constant (i : Int) : FF tab 198 [.i .i64 i] = some ⟨.i .u64 (iv (con i)), []⟩ := by
  refine call_by (A := A198) rfl rfl ?_
  by_cases h : i < 0 ∨ 24 ≤ i
  · rw [show con i = 0 from if_pos h]
    by_cases h1 : i < 0
    · simp (disch := omega) [A198, h1]; rfl
    · have h2 : 24 ≤ i := by omega
      simp (disch := omega) [A198, h1, h2]; rfl
  · obtain ⟨n, rfl⟩ : ∃ n : Nat, i = n := ⟨i.toNat, by omega⟩
    have hn : n < 24 := by omega
    have h1 : ¬ (n : Int) < 0 := by omega
    have h2 : ¬ 24 ≤ (n : Int) := by omega
    have w1 : IntKind.i64.wrap ((n : Int) + 1) = (n : Int) + 1 := i64_in _ (by omega)
    have w2 : IntKind.i64.wrap (7 * ((n : Int) + 1)) = 7 * ((n : Int) + 1) := i64_in _ (by omega)
    have w3 : IntKind.i64.wrap (7 * (n : Int)) = 7 * (n : Int) := i64_in _ (by omega)
    have hc : con (n : Int) = outC n (7 * (n + 1)) := by unfold con; rw [if_neg h, Int.toNat_natCast]
    rw [hc]
    have hN : 0 ≤ (n : Int) ∧ (n : Int) < 24 := by omega
    generalize hT0 : (n : Int) = N at *
    simp (disch := omega) [A198, h1, h2, w1, w2]
    refine w_heads (7 * (n + 1)) (fun t => ⟨[(17, .i .i64 t), (16, .i .i64 (7 * (N + 1))), (4, .i .u8 (ib (row t))), (3, .i .u64 (iv (outC n t))), (0, .i .i64 N)], []⟩) (by simp [row, outC, iv, ib]) ?_ ?_
    · intro t ht
      have er : row (t + 1) = nextB (row t) := rfl
      have e1 := u8_and1 (row t)
      have e2 := u8_shl (row t)
      have e3 := u8_xor (row t <<< 1)
      have e4 := u8_top (row t)
      have hlt : (t : Int) < 7 * (N + 1) := by omega
      by_cases ha : 7 * n ≤ t
      · have hj : t - 7 * n ≤ 6 := by omega
        have hJ : (t : Int) - 7 * N = ((t - 7 * n : Nat) : Int) := by omega
        have eo : outC n (t + 1) = if low (row t) = true then outC n t ||| ((1#64) <<< (2 ^ (t - 7 * n) - 1)) else outC n t := by
          simp only [outC, ha, true_and]
        obtain ⟨s1, s2, s3⟩ := shl1 hj
        have s4 := shl1' s3
        rw [← hJ] at s1
        generalize ((2 ^ (t - 7 * n) : Nat) : Int) = P at *
        generalize ((2 ^ (t - 7 * n) - 1 : Nat) : Int) = P' at *
        generalize hT : (t : Int) = T at *
        have a1 : (0 : Int) ≤ T - 7 * N := by omega
        have w4 : IntKind.i64.wrap (T + 1) = T + 1 := i64_in _ (by omega)
        have w5 : IntKind.i64.wrap (T - 7 * N) = T - 7 * N := i64_in _ (by omega)
        generalize row t = r at *
        generalize outC n t = o at *
        cases hb : low r <;> cases hh : top r <;> simp [hb, hh, bI, nextB] at e1 e4 eo er <;>
          simp (disch := omega) [hlt, a1, w3, w4, w5, e1, e2, e3, e4, s1, s2, s4, bitV_or, eo, er, hT]
      · have eo : outC n (t + 1) = outC n t := by simp only [outC]; rw [if_neg (fun h => ha h.1)]
        generalize hT : (t : Int) = T at *
        have a1 : ¬ (0 : Int) ≤ T - 7 * N := by omega
        have a2 : T - 7 * N < 0 := by omega
        have w4 : IntKind.i64.wrap (T + 1) = T + 1 := i64_in _ (by omega)
        have w5 : IntKind.i64.wrap (T - 7 * N) = T - 7 * N := i64_in _ (by omega)
        generalize row t = r at *
        cases hh : top r <;> simp [hh, nextB] at e4 er <;>
          simp (disch := omega) [hlt, a1, a2, w3, w4, w5, e1, e2, e3, e4, eo, er, hT]
    · have e : ((7 * (n + 1) : Nat) : Int) = 7 * (N + 1) := by omega
      simp only [e]
      simp []
end Zab.YtngoidkconngmaaDoorH
