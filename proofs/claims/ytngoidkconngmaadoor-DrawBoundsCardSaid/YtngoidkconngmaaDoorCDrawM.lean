/- Numbers out of bits of bytes, and masks: both functions. -/
import Derived.Test.YtngoidkconngmaaDoorZabG8
import Derived.Test.YtngoidkconngmaaDoorCDrawS
import Derived.Test.YtngoidkconngmaaDoorCDrawL
import Derived.Test.YtngoidkconngmaaDoorCSpo6
namespace Zab.YtngoidkconngmaaDoorC
open Go
open Go.IntWalk (i64_in)
set_option maxRecDepth 100000
set_option linter.unusedSimpArgs false
set_option linter.unusedVariables false
attribute [-simp] getElem?_pos
attribute [local simp ↓] W_loop W_seq W_skip W_ret W_exit W_reg W_cond W_block W_pre cleanO_some freezes_nil freezes_cons frzO_some andThen_normal andThen_ret andThen_exit unblock_normal unblock_ret unblock_exit Ends_normal Ends_ret steps_nil steps_cons step_some st_move st_pick st_bin st_un st_conv st_addr sv_ixA sv_ixS sv_fld sv_ixV st_ixStr st_ext sv_build sv_bsl sv_mkS st_mkfn sv_lenS sv_len st_mn st_mx st_nilChk st_cap st_mki st_boxE st_buildQ sv_boxQ sv_allocQ sv_appN st_tas st_slc sv_ldE sv_ldg sv_loadg sv_load st_call sv_store sv_box sv_alloc sv_mkR sv_bslR sv_nilR sv_app sv_callK stepsAt_some onSome_some onB_true onB_false onG_tt onG_tf onG_ft onG_ff onG_un optPut_some optMem_some
attribute [local simp] evalO evalL constAV get_cons get_nil put_cons put_nil look_cons look_nil putD_some clean_mk freeze_mk mapS del_cons del_nil keepS_cons keepS_nil keepL_cons keepL_nil memb_cons memb_nil unV pureV convV_i addrV toArgs anyRs hasSl2L finR resL resV one shiftV_shr shiftV_shl IntKind.bits fillV List.getElem?_cons_zero List.getElem?_cons_succ List.length_cons List.length_nil List.set_cons_zero List.set_cons_succ setR2 setR3 zrep_eqs binV_i binI_shl binI_shr binI_eqs binV_eqs binV_slcE binV_slcN lends_nil seesAny_no callK1_fn callK2_some callK3_some recvPut_some hasSlLL_nil hasSlLL_cons recv_os recv_op recv_no recvV_some recv_tp srcV_rs srcR_some List.append_nil intV_quo intV_rem hasSlL mapR_eqs kill1_eqs frz1_eqs isRs_eqs toArg_eqs from1_eqs from_eqs toRet_eqs countR_eqs hasSl1_eqs hasSl2_eqs hasSl_eqs cellsOf_ag1 cellsOf_ag2 cellsOf_ag3 cellsOf_ag4 cellsOf_ag5 partV_2 partV_3 partV_4 partV_5 ownR_of seenR_all seenR_part appS_rs appR_of srcV_sl srcV_z nilS_z bslS_some dec_t dec_f buildV_some bslV_some boxS_some root_mk ixSV_sl ixSV_rs ixAV_rf ixAV_el ixVV_ag fldV_ag lenV_sl lenV_rs lenV_z lenSV_s loadV_rf loadV_el ldEV_el loadR_some partV_none partV_all partV_some storeV_rf setR_one setR_all cellsOf_ag cellsOf_i cellsOf_b cellsOf_sl cellsOf_z cellsOf_er cellsOf_nl cellsOf_np cellsOf_s mkSV_of mkRS_of fl_map fl_kill fl_frz fl_toArg fl_isRs fl_toRet fl_from1 fl_from fl_cells fl_countR nums_length nums_get nums_set nums_append nums_snoc nums_drop nums_take nums_zrep nums_hasSl bools_length bools_get bools_set bools_snoc bools_zrep bools_hasSl vecs_length vecs_get vecs_snoc slcV_sl idxO idx Nat.zero_add Nat.mul_one Nat.add_zero nbeq_dec nble_dec nblt_dec special_nil special_cons mapQ_nil mapQ_cons frzR_some fillQ boxEV_some buildQV_some allPlain_nil allPlain_cons plain_eqs flat_eqs cellQ_eqs loadQ_some partQ_none partQ_some partF_t partF_f allFlat_nil allFlat_cons allQ_nil allQ_cons fldV_aq cellsQ_ag cellsQ_aq cellsQ_eqs cellsOf_ie enterS_nil enterS_cons enterL_nil enterL_cons partsN_nil partsN_cons partRows_nil partRows_cons scatL_nil scatL_cons rowsL_nil rowsL_cons keys_nil keys_cons rootsP_nil rootsP_cons rootsIn_nil rootsIn_cons childP_nil childP_cons childIn_nil childIn_cons okEnter_nil okEnter_cons nodupB_nil nodupB_cons allRoot_nil allRoot_cons noRoots_nil noRoots_cons apart_nil apart_cons allCh_nil allCh_cons kindsOk_nil kindsOk_cons rootB_eq chB_eq isRef_eq child_eq partId_eq okFin_eq slotOf_eqs partN_eqs lentRows_eqs argRows_eqs scat1_eqs rows1_eqs rootsR_eqs rootsA_eqs childR_eqs childA_eqs isRs0_eqs anyRs0_nil anyRs0_cons viewR_look agV_some consV_some consO_some viewL_nil viewL_rs viewL_fl frzP_nil frzP_os frzP_fl from1_op tpV_some fromRetL_nil fromRetL_cons gathL_nil gathC_some gathL_eq gathF_some gathS_some gath1_rf gath1_rs gath1_eqs ownR_ch ownR_cut retQ_some retA_some retN_some retF_some toRet_rf toRets_nil retC_some toRets_cons lentF_some lentG_some lentQ_some lentC_some lentR_op lentR_oq lentA_op lentA_oq lentParts_nil lentParts_cons lentOf_nil lentOf_cons lentR_eqs lentA_eqs countR_nil hasSlC_eqs hasSlCL_nil hasSlCL_cons sees0_nil seesAny_nil namesNot_nil sees0_eqs seesAny_eqs namesNot_eqs sees0_no lendG_some lendF_some lendP_rf lend1_rf lendV_some lendP_rs lend1_rs lendT_some lendPL_nil lendPL_cons lends_eq lendA_nil lendA_cons lendN_some lendP_eqs lend1_eqs putRows_nil putRows_cons kills_nil kills_cons putRS_mk takeRows_nil takeRows_cons rootAt_mk nilsC_some nilsOf_nil nilsOf_cons nilsX_z rootQ_eq rootR_some boxQS_some appR_cut appNS_of recvD_some recvD_none callK4_some backL_nil backC_some backL_cons afterB_some afterK_nil afterK_cons stays_cons staysB_some stays_nil nums_hasSlC bools_hasSlC recv_seven recvR_some recv_oq recv_aq recv_fn recv_ag recv_sl recv_z recv_np recv_nl recv_er recv_ie recv_fl recvT3_some recvT2_some recvT_some take1_os take1_op take1_oq take1_aq take1_fn take1_eqs notTp_eqs fl_slot fl_argRows fl_partN fl_lentRows fl_scat fl_rows1 fl_lentA fl_lentR fl_rootsA fl_rootsR fl_childA fl_childR fl_lendP fl_lend1 fl_isRs0 fl_gath fl_cellQ fl_cellsQ fl_take1 fl_sees0 fl_seesAny fl_namesNot fl_plain List.map_cons List.map_nil List.isEmpty_nil List.isEmpty_cons stepsAt_some onSome_some onB_true onB_false onG_tt onG_tf onG_ft onG_ff onG_un optPut_some optMem_some

theorem w64_nat {a : Nat} (h : a < 2 ^ 63) : IntKind.i64.wrap (a : Int) = a := wrap_nat h
set_option maxHeartbeats 8000000 in
theorem pOpenB {d n : Nat} (d1 : 1 ≤ d) (d24 : d ≤ 24) (n1 : 1 ≤ n) (n4 : n ≤ 4096) {x : AV} {L : List Int} (hx : IsL .u8 x L) (hI : ∀ y ∈ L, inK .u8 y) (hl : 8 * L.length = d * n) :
    FF tab 136 [.i .i64 d, .i .i64 n, x] = some ⟨.tp [.os (nums .i64 (opnL d (val L) n)) n 1, .nl], []⟩ := by
  refine call_by (A := A136) rfl rfl ?_
  have hB := bytes_in hI
  have fx := hx.flat
  have lx := lenV_isL hx
  have hdn : d * n ≤ 24 * 4096 := Nat.mul_le_mul d24 n4
  have w1 : IntKind.i64.wrap ((d : Int) * n) = ((8 * L.length : Nat) : Int) := by
    rw [show ((d : Int) * n) = ((8 * L.length : Nat) : Int) by rw [hl]; simp]; exact i64_in _ (by omega)
  have r1 : ((8 * L.length : Nat) : Int).tmod 8 = 0 := by rw [Int.tmod_eq_emod_of_nonneg (by omega)]; omega
  have q1 : ((8 * L.length : Nat) : Int).tdiv 8 = L.length := by rw [Int.tdiv_eq_ediv_of_nonneg (by omega)]; omega
  have q2 : IntKind.i64.wrap (L.length : Int) = L.length := i64_in _ (by omega)
  have c1 : ¬ (d : Int) < 1 := by omega
  have c2 : ¬ (24 : Int) < d := by omega
  have c3 : ¬ (n : Int) < 0 := by omega
  have c4 : ¬ (4096 : Int) < n := by omega
  have tn : (n : Int).toNat = n := Int.toNat_natCast _
  have n8 : (n : Int) * 8 ≤ 140737488355328 := by omega
  have c0 : (0 : Int) ≤ n := by omega
  generalize hT : ((8 * L.length : Nat) : Int) = T8 at *
  clear hT
  simp (disch := first | assumption | omega | (simp only [List.length_cons, List.length_nil, List.length_set, List.length_append, List.length_replicate, List.length_map, List.length_range, List.length_take, List.length_drop, nums_length, bools_length, vecs_length]; first | done | omega)) [A136, c0, c1, c2, c3, c4, lx, w1, r1, q1, q2, tn, n8]
  refine w_heads L.length (fun m => ⟨[(49, .i .i64 m), (48, .i .i64 L.length), (47, x), (10, .i .i64 ((8 * m - d * (8 * m / d) : Nat) : Int)), (9, .i .u64 ((rst d (val L) m (8 * m / d) : Nat) : Int)), (8, .rs 46 0 (opnL d (val L) (8 * m / d)).length 1), (0, .i .i64 d)], [(46, nums .i64 (opnL d (val L) (8 * m / d)))]⟩) (by simp (disch := first | assumption | omega | (simp only [List.length_cons, List.length_nil, List.length_set, List.length_append, List.length_replicate, List.length_map, List.length_range, List.length_take, List.length_drop, nums_length, bools_length, vecs_length]; first | done | omega)) [opnL, rst, Nat.zero_div, Nat.mod_one, nums_nil]) ?_ ?_
  · intro m hm
    have hc := Nat.div_mul_le_self (8 * m) d
    rw [Nat.mul_comm] at hc
    have hmod : 8 * m - d * (8 * m / d) < d := by rw [← Nat.mod_eq_sub_mul_div]; exact Nat.mod_lt _ (by omega)
    have hcc : 8 * m / d ≤ 8 * (m + 1) / d := Nat.div_le_div_right (by omega)
    have e8 : ((8 * m - d * (8 * m / d) : Nat) : Int) + 8 = ((8 * (m + 1) - d * (8 * m / d) : Nat) : Int) := by omega
    have hr := rst_byte (d := d) (c := 8 * m / d) hB hm hc
    have lt1 := rst_lt (V := val L) hc
    have lt2 := rst_lt (d := d) (V := val L) (m := m + 1) (c := 8 * m / d) (by omega)
    have hh : 8 * (m + 1) - d * (8 * m / d) ≤ 32 := by omega
    have hp := pow_le hh
    obtain ⟨y0, y1⟩ : 0 ≤ ni L m ∧ ni L m < 256 := hB _ (by unfold ni; rw [List.getD_eq_getElem?_getD, List.getElem?_eq_getElem hm]; exact List.getElem_mem hm)
    have ix := ixSV_isL hx (k' := .i64) (j := (m : Int)) (by omega) (by omega)
    rw [Int.toNat_natCast] at ix
    have gx := nums_get (k := .u8) (L := L) (j := m) hm
    have ey : ni L m = ((ni L m).toNat : Int) := by omega
    have wy : IntKind.u64.wrap (ni L m) = ((ni L m).toNat : Int) := by rw [ey]; simp only [Int.toNat_natCast]; exact u64_nat (by omega)
    have hle : (ni L m).toNat * 2 ^ (8 * m - d * (8 * m / d)) ≤ rst d (val L) (m + 1) (8 * m / d) := by rw [hr]; omega
    have sh := u64_shl (a := (ni L m).toNat) (d := 8 * m - d * (8 * m / d)) (by omega) (by omega)
    have or := u64_or (i := 8 * m - d * (8 * m / d)) (b := (ni L m).toNat) lt1 hr (by omega)
    have w8 : IntKind.i64.wrap (((8 * m - d * (8 * m / d) : Nat) : Int) + 8) = ((8 * (m + 1) - d * (8 * m / d) : Nat) : Int) := by rw [e8]; exact i64_in _ (by omega)
    have hlt : (m : Int) < L.length := by omega
    have wm : IntKind.i64.wrap ((m : Int) + 1) = (m : Int) + 1 := i64_in _ (by omega)
    have hc2 : d * (8 * m / d) ≤ 8 * m := hc
    have hend : 8 * (m + 1) - d * (8 * (m + 1) / d) < d := by rw [← Nat.mod_eq_sub_mul_div]; exact Nat.mod_lt _ (by omega)
    have hstep : ∀ j, j < 8 * (m + 1) / d - 8 * m / d → d * (8 * m / d + j + 1) ≤ 8 * (m + 1) := by
      intro j hj
      have : 8 * m / d + j + 1 ≤ 8 * (m + 1) / d := by omega
      have := (Nat.le_div_iff_mul_le (by omega)).1 this
      rw [Nat.mul_comm]; exact this
    clear hr hle e8 ey
    generalize hc0 : 8 * m / d = c at *
    generalize hce : 8 * (m + 1) / d = ce at *
    generalize ((ni L m).toNat * 2 ^ (8 * m - d * c) : Nat) = Y1 at *
    generalize (((ni L m).toNat : Nat) : Int) = Y at *
    generalize hR0 : ((rst d (val L) m c : Nat) : Int) = R0 at *
    generalize hH0 : ((8 * m - d * c : Nat) : Int) = H0 at *
    generalize hO0 : opnL d (val L) c = O0 at *
    simp (disch := first | assumption | omega | (simp only [List.length_cons, List.length_nil, List.length_set, List.length_append, List.length_replicate, List.length_map, List.length_range, List.length_take, List.length_drop, nums_length, bools_length, vecs_length]; first | done | omega)) [hlt, ix, gx, wy, sh, or, w8, -shiftV_shl, -shiftV_shr]
    subst hO0
    refine w_heads (ce - c) (fun j => ⟨[(49, .i .i64 m), (48, .i .i64 L.length), (47, x), (10, .i .i64 ((8 * (m + 1) - d * (c + j) : Nat) : Int)), (9, .i .u64 ((rst d (val L) (m + 1) (c + j) : Nat) : Int)), (8, .rs 46 0 (opnL d (val L) (c + j)).length 1), (0, .i .i64 d)], [(46, nums .i64 (opnL d (val L) (c + j)))]⟩) (by simp (disch := first | assumption | omega | (simp only [List.length_cons, List.length_nil, List.length_set, List.length_append, List.length_replicate, List.length_map, List.length_range, List.length_take, List.length_drop, nums_length, bools_length, vecs_length]; first | done | omega)) []) ?_ ?_
    · intro j hj
      have hs := hstep j hj
      have hms : d * (c + j + 1) = d * (c + j) + d := Nat.mul_succ _ _
      have o1 := rst_out (d := d) (V := val L) (m := m + 1) (c := c + j) hs
      have o2 := rst_next d (val L) (m + 1) (c + j)
      have lt := rst_lt (d := d) (V := val L) (m := m + 1) (c := c + j) (by omega)
      have hcj : d * c ≤ d * (c + j) := Nat.mul_le_mul_left d (by omega)
      have hp2 := pow_le (show 8 * (m + 1) - d * (c + j) ≤ 32 by omega)
      have a1 := u64_low (a := rst d (val L) (m + 1) (c + j)) (d := d) (by omega) (by omega)
      rw [o1] at a1
      have a2 := u64_shr (a := rst d (val L) (m + 1) (c + j)) (d := d) (by omega)
      rw [o2] at a2
      have ol := opn_lt d (val L) (c + j)
      have hp3 := pow_le d24
      have wo : IntKind.i64.wrap ((opn d (val L) (c + j) : Nat) : Int) = ((opn d (val L) (c + j) : Nat) : Int) := i64_in _ (by omega)
      have s1 := u64_shl (a := 1) (d := d) (by omega) (by omega)
      rw [Nat.one_mul, show ((1 : Nat) : Int) = 1 from rfl] at s1
      have hp0 : 0 < 2 ^ d := Nat.pow_pos (by omega)
      have w2 : IntKind.u64.wrap (((2 ^ d : Nat) : Int) - 1) = ((2 ^ d - 1 : Nat) : Int) := by
        rw [show ((2 ^ d : Nat) : Int) - 1 = ((2 ^ d - 1 : Nat) : Int) by omega]; exact u64_nat (by omega)
      have hge : (d : Int) ≤ ((8 * (m + 1) - d * (c + j) : Nat) : Int) := by omega
      have wH : IntKind.i64.wrap (((8 * (m + 1) - d * (c + j) : Nat) : Int) - d) = ((8 * (m + 1) - d * (c + j + 1) : Nat) : Int) := by
        rw [show ((8 * (m + 1) - d * (c + j) : Nat) : Int) - d = ((8 * (m + 1) - d * (c + j + 1) : Nat) : Int) by omega]; exact i64_in _ (by omega)
      have hol := opnL_len d (val L) (c + j)
      have hcl : c + j + 1 ≤ d * (c + j + 1) := Nat.le_mul_of_pos_left _ (by omega)
      rw [show c + (j + 1) = c + j + 1 from rfl, opnL_succ]
      have hb1 : (((opnL d (val L) (c + j)).length : Int) + 1) * 8 ≤ 140737488355328 := by omega
      generalize ((2 ^ d - 1 : Nat) : Int) = P1 at *
      generalize ((2 ^ d : Nat) : Int) = P0 at *
      generalize ((rst d (val L) (m + 1) (c + j) : Nat) : Int) = R1 at *
      generalize ((rst d (val L) (m + 1) (c + j + 1) : Nat) : Int) = R2 at *
      generalize ((8 * (m + 1) - d * (c + j) : Nat) : Int) = H1 at *
      generalize ((8 * (m + 1) - d * (c + j + 1) : Nat) : Int) = H2 at *
      generalize ((opn d (val L) (c + j) : Nat) : Int) = y at *
      generalize opnL d (val L) (c + j) = O at *
      simp (disch := first | assumption | omega | (simp only [List.length_cons, List.length_nil, List.length_set, List.length_append, List.length_replicate, List.length_map, List.length_range, List.length_take, List.length_drop, nums_length, bools_length, vecs_length]; first | done | omega)) [hge, s1, w2, a1, a2, wo, wH, -shiftV_shl, -shiftV_shr]
    · have hcc2 : c + (ce - c) = ce := by omega
      rw [hcc2]
      have hng : ¬ (d : Int) ≤ ((8 * (m + 1) - d * ce : Nat) : Int) := by omega
      generalize ((rst d (val L) (m + 1) ce : Nat) : Int) = R2 at *
      generalize ((8 * (m + 1) - d * ce : Nat) : Int) = H2 at *
      generalize opnL d (val L) ce = O at *
      simp (disch := first | assumption | omega | (simp only [List.length_cons, List.length_nil, List.length_set, List.length_append, List.length_replicate, List.length_map, List.length_range, List.length_take, List.length_drop, nums_length, bools_length, vecs_length]; first | done | omega)) [hng, wm]
  · have hn : 8 * L.length / d = n := by rw [hl]; exact Nat.mul_div_cancel_left _ (by omega)
    rw [hn]
    have hol := opnL_len d (val L) n
    generalize ((rst d (val L) L.length n : Nat) : Int) = R2 at *
    generalize ((8 * L.length - d * n : Nat) : Int) = H2 at *
    generalize opnL d (val L) n = O at *
    simp (disch := first | assumption | omega | (simp only [List.length_cons, List.length_nil, List.length_set, List.length_append, List.length_replicate, List.length_map, List.length_range, List.length_take, List.length_drop, nums_length, bools_length, vecs_length]; first | done | omega)) [hol]
end Zab.YtngoidkconngmaaDoorC
