/- Numbers drawn below a prime: both functions, in both words. -/
import Derived.Test.YtngoidkconngmaaDoorZabG8
import Derived.Test.YtngoidkconngmaaDoorCStr2
namespace Zab.YtngoidkconngmaaDoorC
open Go
open Go.IntWalk (i64_in)
set_option maxRecDepth 100000
set_option linter.unusedSimpArgs false
set_option linter.unusedVariables false
attribute [-simp] getElem?_pos
attribute [local simp ↓] W_loop W_seq W_skip W_ret W_exit W_reg W_cond W_block W_pre cleanO_some freezes_nil freezes_cons frzO_some andThen_normal andThen_ret andThen_exit unblock_normal unblock_ret unblock_exit Ends_normal Ends_ret steps_nil steps_cons step_some st_move st_pick st_bin st_un st_conv st_addr sv_ixA sv_ixS sv_fld sv_ixV st_ixStr st_ext sv_build sv_bsl sv_mkS st_mkfn sv_lenS sv_len st_mn st_mx st_nilChk st_cap st_mki st_boxE st_buildQ sv_boxQ sv_allocQ sv_appN st_tas st_slc sv_ldE sv_ldg sv_loadg sv_load st_call sv_store sv_box sv_alloc sv_mkR sv_bslR sv_nilR sv_app sv_callK stepsAt_some onSome_some onB_true onB_false onG_tt onG_tf onG_ft onG_ff onG_un optPut_some optMem_some
attribute [local simp] evalO evalL constAV get_cons get_nil put_cons put_nil look_cons look_nil putD_some clean_mk freeze_mk mapS del_cons del_nil keepS_cons keepS_nil keepL_cons keepL_nil memb_cons memb_nil unV pureV convV_i addrV toArgs anyRs hasSl2L finR resL resV one shiftV_shr shiftV_shl IntKind.bits fillV List.getElem?_cons_zero List.getElem?_cons_succ List.length_cons List.length_nil List.set_cons_zero List.set_cons_succ setR2 setR3 zrep_eqs binV_i binI_shl binI_shr binI_eqs binV_eqs binV_slcE binV_slcN lends_nil seesAny_no callK1_fn callK2_some callK3_some recvPut_some hasSlLL_nil hasSlLL_cons recv_os recv_op recv_no recvV_some recv_tp srcV_rs srcR_some List.append_nil intV_quo intV_rem hasSlL mapR_eqs kill1_eqs frz1_eqs isRs_eqs toArg_eqs from1_eqs from_eqs toRet_eqs countR_eqs hasSl1_eqs hasSl2_eqs hasSl_eqs cellsOf_ag1 cellsOf_ag2 cellsOf_ag3 cellsOf_ag4 cellsOf_ag5 partV_2 partV_3 partV_4 partV_5 ownR_of seenR_all seenR_part appS_rs appR_of srcV_sl srcV_z nilS_z bslS_some dec_t dec_f buildV_some bslV_some boxS_some root_mk ixSV_sl ixSV_rs ixAV_rf ixAV_el ixVV_ag fldV_ag lenV_sl lenV_rs lenV_z lenSV_s loadV_rf loadV_el ldEV_el loadR_some partV_none partV_all partV_some storeV_rf setR_one setR_all cellsOf_ag cellsOf_i cellsOf_b cellsOf_sl cellsOf_z cellsOf_er cellsOf_nl cellsOf_np cellsOf_s mkSV_of mkRS_of fl_map fl_kill fl_frz fl_toArg fl_isRs fl_toRet fl_from1 fl_from fl_cells fl_countR nums_length nums_get nums_set nums_append nums_snoc nums_drop nums_take nums_zrep nums_hasSl bools_length bools_get bools_set bools_snoc bools_zrep bools_hasSl vecs_length vecs_get vecs_snoc slcV_sl idxO idx Nat.zero_add Nat.mul_one Nat.add_zero nbeq_dec nble_dec nblt_dec special_nil special_cons mapQ_nil mapQ_cons frzR_some fillQ boxEV_some buildQV_some allPlain_nil allPlain_cons plain_eqs flat_eqs cellQ_eqs loadQ_some partQ_none partQ_some partF_t partF_f allFlat_nil allFlat_cons allQ_nil allQ_cons fldV_aq cellsQ_ag cellsQ_aq cellsQ_eqs cellsOf_ie enterS_nil enterS_cons enterL_nil enterL_cons partsN_nil partsN_cons partRows_nil partRows_cons scatL_nil scatL_cons rowsL_nil rowsL_cons keys_nil keys_cons rootsP_nil rootsP_cons rootsIn_nil rootsIn_cons childP_nil childP_cons childIn_nil childIn_cons okEnter_nil okEnter_cons nodupB_nil nodupB_cons allRoot_nil allRoot_cons noRoots_nil noRoots_cons apart_nil apart_cons allCh_nil allCh_cons kindsOk_nil kindsOk_cons rootB_eq chB_eq isRef_eq child_eq partId_eq okFin_eq slotOf_eqs partN_eqs lentRows_eqs argRows_eqs scat1_eqs rows1_eqs rootsR_eqs rootsA_eqs childR_eqs childA_eqs isRs0_eqs anyRs0_nil anyRs0_cons viewR_look agV_some consV_some consO_some viewL_nil viewL_rs viewL_fl frzP_nil frzP_os frzP_fl from1_op tpV_some fromRetL_nil fromRetL_cons gathL_nil gathC_some gathL_eq gathF_some gathS_some gath1_rf gath1_rs gath1_eqs ownR_ch ownR_cut retQ_some retA_some retN_some retF_some toRet_rf toRets_nil retC_some toRets_cons lentF_some lentG_some lentQ_some lentC_some lentR_op lentR_oq lentA_op lentA_oq lentParts_nil lentParts_cons lentOf_nil lentOf_cons lentR_eqs lentA_eqs countR_nil hasSlC_eqs hasSlCL_nil hasSlCL_cons sees0_nil seesAny_nil namesNot_nil sees0_eqs seesAny_eqs namesNot_eqs sees0_no lendG_some lendF_some lendP_rf lend1_rf lendV_some lendP_rs lend1_rs lendT_some lendPL_nil lendPL_cons lends_eq lendA_nil lendA_cons lendN_some lendP_eqs lend1_eqs putRows_nil putRows_cons kills_nil kills_cons putRS_mk takeRows_nil takeRows_cons rootAt_mk nilsC_some nilsOf_nil nilsOf_cons nilsX_z rootQ_eq rootR_some boxQS_some appR_cut appNS_of recvD_some recvD_none callK4_some backL_nil backC_some backL_cons afterB_some afterK_nil afterK_cons stays_cons staysB_some stays_nil nums_hasSlC bools_hasSlC recv_seven recvR_some recv_oq recv_aq recv_fn recv_ag recv_sl recv_z recv_np recv_nl recv_er recv_ie recv_fl recvT3_some recvT2_some recvT_some take1_os take1_op take1_oq take1_aq take1_fn take1_eqs notTp_eqs fl_slot fl_argRows fl_partN fl_lentRows fl_scat fl_rows1 fl_lentA fl_lentR fl_rootsA fl_rootsR fl_childA fl_childR fl_lendP fl_lend1 fl_isRs0 fl_gath fl_cellQ fl_cellsQ fl_take1 fl_sees0 fl_seesAny fl_namesNot fl_plain List.map_cons List.map_nil List.isEmpty_nil List.isEmpty_cons stepsAt_some onSome_some onB_true onB_false onG_tt onG_tf onG_ft onG_ff onG_un optPut_some optMem_some

/-- The bytes of a seed and two more. -/
abbrev stF (R : Nat) (L : List Int) : Nat → Int := bt R (padS R 31 (takeL R (zL 25, 0) L))

set_option maxHeartbeats 8000000 in
theorem pUniform {x : AV} {L : List Int} (hx : IsL .u8 x L) (hB : Bys L) (hl : L.length ≤ 100) {i j : Int} (i0 : 0 ≤ i) (i1 : i < 256) (j0 : 0 ≤ j) (j1 : j < 256)
    {N : Nat} (hN : (uni (stF 168 (L ++ [i, j])) N).length = 256) (hlt : ∀ k, k < N → (uni (stF 168 (L ++ [i, j])) k).length < 256) :
    FF tab 16 [x, .i .u8 i, .i .u8 j] = some ⟨.os (nums .i64 (uni (stF 168 (L ++ [i, j])) N)) 256 1, []⟩ := by
  refine call_by (A := A16) rfl rfl ?_
  have fx := hx.flat
  have hij : ∀ y ∈ [i, j], inK .u8 y := by
    intro y hy
    simp only [List.mem_cons, List.not_mem_nil, or_false] at hy
    rcases hy with rfl | rfl
    · exact ⟨i0, by show _ ≤ (255 : Int); omega⟩
    · exact ⟨j0, by show _ ≤ (255 : Int); omega⟩
  have hO := pOpen (R := 168) (by omega) (by omega) (by omega) hx hB (y := .sl (nums .u8 [i, j]) 2) (M := [i, j]) (.inl rfl) ⟨hij, by simp⟩
  rw [show nums .u8 [i, j] = [.i .u8 i, .i .u8 j] from rfl, show ((168 : Nat) : Int) = 168 from rfl] at hO
  have hZ : (zL 25).length = 25 := zL_len 25
  obtain ⟨a1, a2⟩ := takeL_ok (R := 168) (L ++ [i, j]) (S := (zL 25, 0)) hZ (by show 0 < 168; omega)
  unfold stF at *
  generalize takeL 168 (zL 25, 0) (L ++ [i, j]) = T at *
  have hn := pNext a1 (by omega) (by omega) a2 (X := 31) (by omega) (by omega)
  have hb := bt_in 168 (padS 168 31 T)
  have fb := strB_flat 168 31 T
  generalize bt 168 (padS 168 31 T) = f at *
  have f0 := fb 0
  have e0 : strB 168 31 T 0 = .z := rfl
  simp (disch := first | assumption | omega | (simp only [List.length_cons, List.length_nil, List.length_set, List.length_append, List.length_replicate, List.length_map, List.length_range, List.length_take, List.length_drop, nums_length, bools_length, vecs_length]; first | done | omega)) [A16, hO]
  refine w_heads N (fun k => ⟨[(8, .rs 19 0 (uni f k).length 1), (7, .rf 1000000000018 0)], [(1000000000018, [.rf 1000000018 0, strB 168 31 T (3 * k)]), (1000000018, strC 168 31 T (3 * k)), (19, nums .i64 (uni f k))]⟩) (by simp (disch := first | assumption | omega | (simp only [List.length_cons, List.length_nil, List.length_set, List.length_append, List.length_replicate, List.length_map, List.length_range, List.length_take, List.length_drop, nums_length, bools_length, vecs_length]; first | done | omega)) [uni, e0, nums_nil]) ?_ ?_
  · intro k hk
    have h256 := hlt k hk
    obtain ⟨u0, u1⟩ := hb (3 * k)
    obtain ⟨v0, v1⟩ := hb (3 * k + 1)
    obtain ⟨w0, w1⟩ := hb (3 * k + 2)
    have n0 := hn (3 * k)
    have n1 := hn (3 * k + 1)
    have n2 := hn (3 * k + 2)
    have g0 := fb (3 * k)
    have g1 := fb (3 * k + 1)
    have g2 := fb (3 * k + 2)
    have g3 := fb (3 * k + 3)
    rw [show 3 * k + 1 + 1 = 3 * k + 2 from rfl] at n1
    rw [show 3 * k + 2 + 1 = 3 * k + 3 from rfl] at n2
    have eu : uni f (k + 1) = uni2 (uni1 (uni f k) (uX f k)) (uY f k) := rfl
    rw [eu, show 3 * (k + 1) = 3 * k + 3 by omega]
    have hX : uX f k = f (3 * k) + 256 * (f (3 * k + 1) % 16) := rfl
    have hY : uY f k = f (3 * k + 1) / 16 + 16 * f (3 * k + 2) := rfl
    generalize uX f k = X at *
    generalize uY f k = Y at *
    generalize uni f k = O at *
    generalize f (3 * k) = a at *
    generalize f (3 * k + 1) = b at *
    generalize f (3 * k + 2) = c at *
    have wa : IntKind.i64.wrap a = a := i64_in _ (by omega)
    have wb : IntKind.i64.wrap b = b := i64_in _ (by omega)
    have wc : IntKind.i64.wrap c = c := i64_in _ (by omega)
    have t1 : b.tmod 16 = b % 16 := Int.tmod_eq_emod_of_nonneg v0
    have t2 : b.tdiv 16 = b / 16 := Int.tdiv_eq_ediv_of_nonneg v0
    have q1 : IntKind.i64.wrap (256 * (b % 16)) = 256 * (b % 16) := i64_in _ (by omega)
    have q2 : IntKind.i64.wrap (a + 256 * (b % 16)) = X := by rw [hX]; exact i64_in _ (by omega)
    have q3 : IntKind.i64.wrap (b / 16) = b / 16 := i64_in _ (by omega)
    have q4 : IntKind.i64.wrap (16 * c) = 16 * c := i64_in _ (by omega)
    have q5 : IntKind.i64.wrap (b / 16 + 16 * c) = Y := by rw [hY]; exact i64_in _ (by omega)
    have hk1 : (O.length : Int) < 256 := by omega
    generalize strB 168 31 T (3 * k) = B0 at *
    generalize strB 168 31 T (3 * k + 1) = B1 at *
    generalize strB 168 31 T (3 * k + 2) = B2 at *
    generalize strB 168 31 T (3 * k + 3) = B3 at *
    generalize strC 168 31 T (3 * k) = C0 at *
    generalize strC 168 31 T (3 * k + 1) = C1 at *
    generalize strC 168 31 T (3 * k + 2) = C2 at *
    generalize strC 168 31 T (3 * k + 3) = C3 at *
    simp (disch := first | assumption | omega | (simp only [List.length_cons, List.length_nil, List.length_set, List.length_append, List.length_replicate, List.length_map, List.length_range, List.length_take, List.length_drop, nums_length, bools_length, vecs_length]; first | done | omega)) [hk1, n0, n1, n2, wa, wb, wc, t1, t2, q1, q2, q3, q4, q5]
    refine w_heads 2 (fun j => ⟨[(44, .i .i64 j), (43, .i .i64 2), (42, .sl [.i .i64 X, .i .i64 Y] 2), (8, .rs 19 0 (if j = 0 then O else if j = 1 then uni1 O X else uni2 (uni1 O X) Y).length 1), (7, .rf 1000000000018 0)], [(1000000000018, [.rf 1000000018 0, B3]), (1000000018, C3), (19, nums .i64 (if j = 0 then O else if j = 1 then uni1 O X else uni2 (uni1 O X) Y))]⟩) (by simp (disch := first | assumption | omega | (simp only [List.length_cons, List.length_nil, List.length_set, List.length_append, List.length_replicate, List.length_map, List.length_range, List.length_take, List.length_drop, nums_length, bools_length, vecs_length]; first | done | omega)) []) ?_ ?_
    · intro j hj
      match j, hj with
      | 0, _ =>
        by_cases hx3 : X < 3329
        · have e1 : uni1 O X = O ++ [X] := if_pos hx3
          have hb1 : ((O.length : Int) + 1) * 8 ≤ 140737488355328 := by omega
          simp (disch := first | assumption | omega | (simp only [List.length_cons, List.length_nil, List.length_set, List.length_append, List.length_replicate, List.length_map, List.length_range, List.length_take, List.length_drop, nums_length, bools_length, vecs_length]; first | done | omega)) [e1, hx3, hk1, show IntKind.i64.wrap 1 = 1 from rfl]
        · have e1 : uni1 O X = O := if_neg hx3
          simp (disch := first | assumption | omega | (simp only [List.length_cons, List.length_nil, List.length_set, List.length_append, List.length_replicate, List.length_map, List.length_range, List.length_take, List.length_drop, nums_length, bools_length, vecs_length]; first | done | omega)) [e1, hx3, hk1, show IntKind.i64.wrap 1 = 1 from rfl]
      | 1, _ =>
        have hl1 := (uni1_len O X).2
        generalize uni1 O X = O1 at *
        by_cases hy3 : Y < 3329
        · by_cases hl2 : O1.length < 256
          · have e1 : uni2 O1 Y = O1 ++ [Y] := if_pos ⟨hy3, hl2⟩
            have hl3 : (O1.length : Int) < 256 := by omega
            simp (disch := first | assumption | omega | (simp only [List.length_cons, List.length_nil, List.length_set, List.length_append, List.length_replicate, List.length_map, List.length_range, List.length_take, List.length_drop, nums_length, bools_length, vecs_length]; first | done | omega)) [e1, hy3, hl3, show IntKind.i64.wrap 2 = 2 from rfl]
          · have e1 : uni2 O1 Y = O1 := if_neg (fun h => hl2 h.2)
            have hl3 : ¬ (O1.length : Int) < 256 := by omega
            simp (disch := first | assumption | omega | (simp only [List.length_cons, List.length_nil, List.length_set, List.length_append, List.length_replicate, List.length_map, List.length_range, List.length_take, List.length_drop, nums_length, bools_length, vecs_length]; first | done | omega)) [e1, hy3, hl3, show IntKind.i64.wrap 2 = 2 from rfl]
        · have e1 : uni2 O1 Y = O1 := if_neg (fun h => hy3 h.1)
          simp (disch := first | assumption | omega | (simp only [List.length_cons, List.length_nil, List.length_set, List.length_append, List.length_replicate, List.length_map, List.length_range, List.length_take, List.length_drop, nums_length, bools_length, vecs_length]; first | done | omega)) [e1, hy3, show IntKind.i64.wrap 2 = 2 from rfl]
    · simp (disch := first | assumption | omega | (simp only [List.length_cons, List.length_nil, List.length_set, List.length_append, List.length_replicate, List.length_map, List.length_range, List.length_take, List.length_drop, nums_length, bools_length, vecs_length]; first | done | omega)) []
  · generalize uni f N = O at *
    generalize strB 168 31 T (3 * N) = B0 at *
    generalize strC 168 31 T (3 * N) = C0 at *
    simp (disch := first | assumption | omega | (simp only [List.length_cons, List.length_nil, List.length_set, List.length_append, List.length_replicate, List.length_map, List.length_range, List.length_take, List.length_drop, nums_length, bools_length, vecs_length]; first | done | omega)) [hN]
end Zab.YtngoidkconngmaaDoorC
