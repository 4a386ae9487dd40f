/- Small numbers out of half bytes: both functions. -/
import Derived.Test.YtngoidkconngmaaDoorZabG8
import Derived.Test.YtngoidkconngmaaDoorCDrawV
namespace Zab.YtngoidkconngmaaDoorC
open Go
open Go.IntWalk (i64_in)
set_option maxRecDepth 100000
set_option linter.unusedSimpArgs false
set_option linter.unusedVariables false
attribute [-simp] getElem?_pos
attribute [local simp ↓] W_loop W_seq W_skip W_ret W_exit W_reg W_cond W_block W_pre cleanO_some freezes_nil freezes_cons frzO_some andThen_normal andThen_ret andThen_exit unblock_normal unblock_ret unblock_exit Ends_normal Ends_ret steps_nil steps_cons step_some st_move st_pick st_bin st_un st_conv st_addr sv_ixA sv_ixS sv_fld sv_ixV st_ixStr st_ext sv_build sv_bsl sv_mkS st_mkfn sv_lenS sv_len st_mn st_mx st_nilChk st_cap st_mki st_boxE st_buildQ sv_boxQ sv_allocQ sv_appN st_tas st_slc sv_ldE sv_ldg sv_loadg sv_load st_call sv_store sv_box sv_alloc sv_mkR sv_bslR sv_nilR sv_app sv_callK stepsAt_some onSome_some onB_true onB_false onG_tt onG_tf onG_ft onG_ff onG_un optPut_some optMem_some
attribute [local simp] evalO evalL constAV get_cons get_nil put_cons put_nil look_cons look_nil putD_some clean_mk freeze_mk mapS del_cons del_nil keepS_cons keepS_nil keepL_cons keepL_nil memb_cons memb_nil unV pureV convV_i addrV toArgs anyRs hasSl2L finR resL resV one shiftV_shr shiftV_shl IntKind.bits fillV List.getElem?_cons_zero List.getElem?_cons_succ List.length_cons List.length_nil List.set_cons_zero List.set_cons_succ setR2 setR3 zrep_eqs binV_i binI_shl binI_shr binI_eqs binV_eqs binV_slcE binV_slcN lends_nil seesAny_no callK1_fn callK2_some callK3_some recvPut_some hasSlLL_nil hasSlLL_cons recv_os recv_op recv_no recvV_some recv_tp srcV_rs srcR_some List.append_nil intV_quo intV_rem hasSlL mapR_eqs kill1_eqs frz1_eqs isRs_eqs toArg_eqs from1_eqs from_eqs toRet_eqs countR_eqs hasSl1_eqs hasSl2_eqs hasSl_eqs cellsOf_ag1 cellsOf_ag2 cellsOf_ag3 cellsOf_ag4 cellsOf_ag5 partV_2 partV_3 partV_4 partV_5 ownR_of seenR_all seenR_part appS_rs appR_of srcV_sl srcV_z nilS_z bslS_some dec_t dec_f buildV_some bslV_some boxS_some root_mk ixSV_sl ixSV_rs ixAV_rf ixAV_el ixVV_ag fldV_ag lenV_sl lenV_rs lenV_z lenSV_s loadV_rf loadV_el ldEV_el loadR_some partV_none partV_all partV_some storeV_rf setR_one setR_all cellsOf_ag cellsOf_i cellsOf_b cellsOf_sl cellsOf_z cellsOf_er cellsOf_nl cellsOf_np cellsOf_s mkSV_of mkRS_of fl_map fl_kill fl_frz fl_toArg fl_isRs fl_toRet fl_from1 fl_from fl_cells fl_countR nums_length nums_get nums_set nums_append nums_snoc nums_drop nums_take nums_zrep nums_hasSl bools_length bools_get bools_set bools_snoc bools_zrep bools_hasSl vecs_length vecs_get vecs_snoc slcV_sl idxO idx Nat.zero_add Nat.mul_one Nat.add_zero nbeq_dec nble_dec nblt_dec special_nil special_cons mapQ_nil mapQ_cons frzR_some fillQ boxEV_some buildQV_some allPlain_nil allPlain_cons plain_eqs flat_eqs cellQ_eqs loadQ_some partQ_none partQ_some partF_t partF_f allFlat_nil allFlat_cons allQ_nil allQ_cons fldV_aq cellsQ_ag cellsQ_aq cellsQ_eqs cellsOf_ie enterS_nil enterS_cons enterL_nil enterL_cons partsN_nil partsN_cons partRows_nil partRows_cons scatL_nil scatL_cons rowsL_nil rowsL_cons keys_nil keys_cons rootsP_nil rootsP_cons rootsIn_nil rootsIn_cons childP_nil childP_cons childIn_nil childIn_cons okEnter_nil okEnter_cons nodupB_nil nodupB_cons allRoot_nil allRoot_cons noRoots_nil noRoots_cons apart_nil apart_cons allCh_nil allCh_cons kindsOk_nil kindsOk_cons rootB_eq chB_eq isRef_eq child_eq partId_eq okFin_eq slotOf_eqs partN_eqs lentRows_eqs argRows_eqs scat1_eqs rows1_eqs rootsR_eqs rootsA_eqs childR_eqs childA_eqs isRs0_eqs anyRs0_nil anyRs0_cons viewR_look agV_some consV_some consO_some viewL_nil viewL_rs viewL_fl frzP_nil frzP_os frzP_fl from1_op tpV_some fromRetL_nil fromRetL_cons gathL_nil gathC_some gathL_eq gathF_some gathS_some gath1_rf gath1_rs gath1_eqs ownR_ch ownR_cut retQ_some retA_some retN_some retF_some toRet_rf toRets_nil retC_some toRets_cons lentF_some lentG_some lentQ_some lentC_some lentR_op lentR_oq lentA_op lentA_oq lentParts_nil lentParts_cons lentOf_nil lentOf_cons lentR_eqs lentA_eqs countR_nil hasSlC_eqs hasSlCL_nil hasSlCL_cons sees0_nil seesAny_nil namesNot_nil sees0_eqs seesAny_eqs namesNot_eqs sees0_no lendG_some lendF_some lendP_rf lend1_rf lendV_some lendP_rs lend1_rs lendT_some lendPL_nil lendPL_cons lends_eq lendA_nil lendA_cons lendN_some lendP_eqs lend1_eqs putRows_nil putRows_cons kills_nil kills_cons putRS_mk takeRows_nil takeRows_cons rootAt_mk nilsC_some nilsOf_nil nilsOf_cons nilsX_z rootQ_eq rootR_some boxQS_some appR_cut appNS_of recvD_some recvD_none callK4_some backL_nil backC_some backL_cons afterB_some afterK_nil afterK_cons stays_cons staysB_some stays_nil nums_hasSlC bools_hasSlC recv_seven recvR_some recv_oq recv_aq recv_fn recv_ag recv_sl recv_z recv_np recv_nl recv_er recv_ie recv_fl recvT3_some recvT2_some recvT_some take1_os take1_op take1_oq take1_aq take1_fn take1_eqs notTp_eqs fl_slot fl_argRows fl_partN fl_lentRows fl_scat fl_rows1 fl_lentA fl_lentR fl_rootsA fl_rootsR fl_childA fl_childR fl_lendP fl_lend1 fl_isRs0 fl_gath fl_cellQ fl_cellsQ fl_take1 fl_sees0 fl_seesAny fl_namesNot fl_plain List.map_cons List.map_nil List.isEmpty_nil List.isEmpty_cons stepsAt_some onSome_some onB_true onB_false onG_tt onG_tf onG_ft onG_ff onG_un optPut_some optMem_some

theorem wrap_lo (n : Int) : IntKind.u8.wrap n = n % 256 := rfl
theorem lo_in {n : Int} : 0 ≤ n % 256 ∧ n % 256 < 256 := by omega
theorem hi_in {n : Int} (h0 : 0 ≤ n) (h1 : n ≤ 65535) : 0 ≤ n / 256 ∧ n / 256 < 256 := by omega
theorem shr_8 (n : Int) : shiftV .shr .i64 n 8 = some (.i .i64 (n / 256)) := by rw [shiftV_shr (by omega)]; rfl
theorem wrap_hi {n : Int} (h0 : 0 ≤ n) (h1 : n ≤ 65535) : IntKind.u8.wrap (n / 256) = n / 256 := by
  rw [wrap_lo]; omega

theorem pTwo {n : Int} (h0 : 0 ≤ n) (h1 : n ≤ 65535) : FF tab 117 [.i .i64 n] = some ⟨.sl (nums .u8 [n % 256, n / 256]) 2, []⟩ := by
  refine call_by (A := A117) rfl rfl ?_
  have s := shr_8 n
  have w1 := wrap_lo n
  have w2 := wrap_hi h0 h1
  have e : nums .u8 [n % 256, n / 256] = [.i .u8 (n % 256), .i .u8 (n / 256)] := rfl
  generalize n / 256 = b at *
  generalize n % 256 = a at *
  rw [e]
  simp (disch := first | assumption | omega | (simp only [List.length_cons, List.length_nil, List.length_set, List.length_append, List.length_replicate, List.length_map, List.length_range, List.length_take, List.length_drop, nums_length, bools_length, vecs_length]; first | done | omega)) [A117, s, w1, w2, -shiftV_shr]

set_option maxHeartbeats 8000000 in
theorem pSmall {x : AV} {L : List Int} (hx : IsL .u8 x L) (hB : Bys L) {e n : Int} (he : e = 2 ∨ e = 4) (n0 : 0 ≤ n) (n1 : n ≤ 65535)
    {N : Nat} (hN : (sml e (stF 136 (L ++ [n % 256, n / 256])) N).length = 256) (hlt : ∀ k, k < N → (sml e (stF 136 (L ++ [n % 256, n / 256])) k).length < 256) :
    FF tab 47 [.i .i64 e, x, .i .i64 n] = some ⟨.tp [.os (nums .i64 (sml e (stF 136 (L ++ [n % 256, n / 256])) N)) 256 1, .nl], []⟩ := by
  refine call_by (A := A47) rfl rfl ?_
  have fx := hx.flat
  have hW := pTwo n0 n1
  have l0 := lo_in (n := n)
  have g0 := hi_in n0 n1
  have hO := pOpen (R := 136) (by omega) (by omega) (by omega) hx hB (y := .sl (nums .u8 [n % 256, n / 256]) 2) (M := [n % 256, n / 256]) (.inl rfl) (two_in l0.1 l0.2 g0.1 g0.2)
  rw [show ((136 : Nat) : Int) = 136 from rfl] at hO
  have hZ : (zL 25).length = 25 := zL_len 25
  obtain ⟨a1, a2⟩ := takeL_ok (R := 136) (L ++ [n % 256, n / 256]) (S := (zL 25, 0)) hZ (by show 0 < 136; omega)
  unfold stF at *
  generalize takeL 136 (zL 25, 0) (L ++ [n % 256, n / 256]) = T at *
  generalize nums .u8 [n % 256, n / 256] = tw at *
  have hn := pNext a1 (by omega) (by omega) a2 (X := 31) (by omega) (by omega)
  have hb := bt_in 136 (padS 136 31 T)
  have fb := strB_flat 136 31 T
  generalize bt 136 (padS 136 31 T) = f at *
  have f0 := fb 0
  have e0 : strB 136 31 T 0 = .z := rfl
  have c1 : ¬ n < 0 := by omega
  have c2 : ¬ (65535 : Int) < n := by omega
  rcases he with rfl | rfl
  · simp (disch := first | assumption | omega | (simp only [List.length_cons, List.length_nil, List.length_set, List.length_append, List.length_replicate, List.length_map, List.length_range, List.length_take, List.length_drop, nums_length, bools_length, vecs_length]; first | done | omega)) [A47, hW, hO, c1, c2]
    refine w_heads N (fun k => ⟨[(9, .rs 32 0 (sml 2 f k).length 1), (8, .rf 1000000000031 0), (0, .i .i64 2)], [(1000000000031, [.rf 1000000031 0, strB 136 31 T k]), (1000000031, strC 136 31 T k), (32, nums .i64 (sml 2 f k))]⟩) (by simp (disch := first | assumption | omega | (simp only [List.length_cons, List.length_nil, List.length_set, List.length_append, List.length_replicate, List.length_map, List.length_range, List.length_take, List.length_drop, nums_length, bools_length, vecs_length]; first | done | omega)) [sml, e0, nums_nil]) ?_ ?_
    · intro k hk
      have h256 := hlt k hk
      obtain ⟨u0, u1⟩ := hb k
      have p0 := hn k
      have q0 := fb k
      have q1 := fb (k + 1)
      have eu : sml 2 f (k + 1) = sml1 2 (sml1 2 (sml 2 f k) (f k % 16)) (f k / 16) := rfl
      rw [eu]
      generalize sml 2 f k = O at *
      generalize f k = y at *
      have wy : IntKind.i64.wrap y = y := i64_in _ (by omega)
      have t1 : y.tmod 16 = y % 16 := Int.tmod_eq_emod_of_nonneg u0
      have t2 : y.tdiv 16 = y / 16 := Int.tdiv_eq_ediv_of_nonneg u0
      have w3 : IntKind.i64.wrap (y / 16) = y / 16 := i64_in _ (by omega)
      have hk1 : (O.length : Int) < 256 := by omega
      have v0 : 0 ≤ y % 16 ∧ y % 16 < 16 := by omega
      have z0 : 0 ≤ y / 16 ∧ y / 16 < 16 := by omega
      generalize y % 16 = v at *
      generalize y / 16 = u at *
      generalize strB 136 31 T k = B0 at *
      generalize strB 136 31 T (k + 1) = B1 at *
      generalize strC 136 31 T k = C0 at *
      generalize strC 136 31 T (k + 1) = C1 at *
      simp (disch := first | assumption | omega | (simp only [List.length_cons, List.length_nil, List.length_set, List.length_append, List.length_replicate, List.length_map, List.length_range, List.length_take, List.length_drop, nums_length, bools_length, vecs_length]; first | done | omega)) [hk1, p0, wy, t1, t2, w3]
      refine w_heads 2 (fun j => ⟨[(45, .i .i64 j), (44, .i .i64 2), (43, .sl [.i .i64 v, .i .i64 u] 2), (9, .rs 32 0 (if j = 0 then O else if j = 1 then sml1 2 O v else sml1 2 (sml1 2 O v) u).length 1), (8, .rf 1000000000031 0), (0, .i .i64 2)], [(1000000000031, [.rf 1000000031 0, B1]), (1000000031, C1), (32, nums .i64 (if j = 0 then O else if j = 1 then sml1 2 O v else sml1 2 (sml1 2 O v) u))]⟩) (by simp (disch := first | assumption | omega | (simp only [List.length_cons, List.length_nil, List.length_set, List.length_append, List.length_replicate, List.length_map, List.length_range, List.length_take, List.length_drop, nums_length, bools_length, vecs_length]; first | done | omega)) []) ?_ ?_
      · intro j hj
        match j, hj with
        | 0, _ =>
          have m5 : v.tmod 5 = v % 5 := Int.tmod_eq_emod_of_nonneg v0.1
          have ws : IntKind.i64.wrap (2 - v % 5) = 2 - v % 5 := i64_in _ (by omega)
          have hne : ¬ (O.length : Int) = 256 := by omega
          have hb1 : ((O.length : Int) + 1) * 8 ≤ 140737488355328 := by omega
          by_cases hv : v < 15
          · have e1 : sml1 2 O v = O ++ [2 - v % 5] := by unfold sml1 hlf; rw [if_neg (by omega)]; simp [hv]
            simp (disch := first | assumption | omega | (simp only [List.length_cons, List.length_nil, List.length_set, List.length_append, List.length_replicate, List.length_map, List.length_range, List.length_take, List.length_drop, nums_length, bools_length, vecs_length]; first | done | omega)) [e1, hv, hne, m5, ws, show IntKind.i64.wrap 1 = 1 from rfl]
          · have e1 : sml1 2 O v = O := by unfold sml1 hlf; rw [if_neg (by omega)]; simp [hv]
            simp (disch := first | assumption | omega | (simp only [List.length_cons, List.length_nil, List.length_set, List.length_append, List.length_replicate, List.length_map, List.length_range, List.length_take, List.length_drop, nums_length, bools_length, vecs_length]; first | done | omega)) [e1, hv, hne, m5, ws, show IntKind.i64.wrap 1 = 1 from rfl]
        | 1, _ =>
          have hl1 := (sml1_len 2 O v).2
          generalize sml1 2 O v = O1 at *
          have m5 : u.tmod 5 = u % 5 := Int.tmod_eq_emod_of_nonneg z0.1
          have ws : IntKind.i64.wrap (2 - u % 5) = 2 - u % 5 := i64_in _ (by omega)
          have hb1 : ((O1.length : Int) + 1) * 8 ≤ 140737488355328 := by omega
          by_cases hf : O1.length = 256
          · have hne : (O1.length : Int) = 256 := by omega
            have e1 : sml1 2 O1 u = O1 := by unfold sml1; rw [if_pos hf]
            simp (disch := first | assumption | omega | (simp only [List.length_cons, List.length_nil, List.length_set, List.length_append, List.length_replicate, List.length_map, List.length_range, List.length_take, List.length_drop, nums_length, bools_length, vecs_length]; first | done | omega)) [e1, hf, hne, show IntKind.i64.wrap 2 = 2 from rfl]
          · have hne : ¬ (O1.length : Int) = 256 := by omega
            by_cases hv : u < 15
            · have e1 : sml1 2 O1 u = O1 ++ [2 - u % 5] := by unfold sml1 hlf; rw [if_neg hf]; simp [hv]
              simp (disch := first | assumption | omega | (simp only [List.length_cons, List.length_nil, List.length_set, List.length_append, List.length_replicate, List.length_map, List.length_range, List.length_take, List.length_drop, nums_length, bools_length, vecs_length]; first | done | omega)) [e1, hv, hne, m5, ws, show IntKind.i64.wrap 2 = 2 from rfl]
            · have e1 : sml1 2 O1 u = O1 := by unfold sml1 hlf; rw [if_neg hf]; simp [hv]
              simp (disch := first | assumption | omega | (simp only [List.length_cons, List.length_nil, List.length_set, List.length_append, List.length_replicate, List.length_map, List.length_range, List.length_take, List.length_drop, nums_length, bools_length, vecs_length]; first | done | omega)) [e1, hv, hne, m5, ws, show IntKind.i64.wrap 2 = 2 from rfl]
      · simp (disch := first | assumption | omega | (simp only [List.length_cons, List.length_nil, List.length_set, List.length_append, List.length_replicate, List.length_map, List.length_range, List.length_take, List.length_drop, nums_length, bools_length, vecs_length]; first | done | omega)) []
    · generalize sml 2 f N = O at *
      generalize strB 136 31 T N = B0 at *
      generalize strC 136 31 T N = C0 at *
      simp (disch := first | assumption | omega | (simp only [List.length_cons, List.length_nil, List.length_set, List.length_append, List.length_replicate, List.length_map, List.length_range, List.length_take, List.length_drop, nums_length, bools_length, vecs_length]; first | done | omega)) [hN]
  · simp (disch := first | assumption | omega | (simp only [List.length_cons, List.length_nil, List.length_set, List.length_append, List.length_replicate, List.length_map, List.length_range, List.length_take, List.length_drop, nums_length, bools_length, vecs_length]; first | done | omega)) [A47, hW, hO, c1, c2]
    refine w_heads N (fun k => ⟨[(9, .rs 32 0 (sml 4 f k).length 1), (8, .rf 1000000000031 0), (0, .i .i64 4)], [(1000000000031, [.rf 1000000031 0, strB 136 31 T k]), (1000000031, strC 136 31 T k), (32, nums .i64 (sml 4 f k))]⟩) (by simp (disch := first | assumption | omega | (simp only [List.length_cons, List.length_nil, List.length_set, List.length_append, List.length_replicate, List.length_map, List.length_range, List.length_take, List.length_drop, nums_length, bools_length, vecs_length]; first | done | omega)) [sml, e0, nums_nil]) ?_ ?_
    · intro k hk
      have h256 := hlt k hk
      obtain ⟨u0, u1⟩ := hb k
      have p0 := hn k
      have q0 := fb k
      have q1 := fb (k + 1)
      have eu : sml 4 f (k + 1) = sml1 4 (sml1 4 (sml 4 f k) (f k % 16)) (f k / 16) := rfl
      rw [eu]
      generalize sml 4 f k = O at *
      generalize f k = y at *
      have wy : IntKind.i64.wrap y = y := i64_in _ (by omega)
      have t1 : y.tmod 16 = y % 16 := Int.tmod_eq_emod_of_nonneg u0
      have t2 : y.tdiv 16 = y / 16 := Int.tdiv_eq_ediv_of_nonneg u0
      have w3 : IntKind.i64.wrap (y / 16) = y / 16 := i64_in _ (by omega)
      have hk1 : (O.length : Int) < 256 := by omega
      have v0 : 0 ≤ y % 16 ∧ y % 16 < 16 := by omega
      have z0 : 0 ≤ y / 16 ∧ y / 16 < 16 := by omega
      generalize y % 16 = v at *
      generalize y / 16 = u at *
      generalize strB 136 31 T k = B0 at *
      generalize strB 136 31 T (k + 1) = B1 at *
      generalize strC 136 31 T k = C0 at *
      generalize strC 136 31 T (k + 1) = C1 at *
      simp (disch := first | assumption | omega | (simp only [List.length_cons, List.length_nil, List.length_set, List.length_append, List.length_replicate, List.length_map, List.length_range, List.length_take, List.length_drop, nums_length, bools_length, vecs_length]; first | done | omega)) [hk1, p0, wy, t1, t2, w3]
      refine w_heads 2 (fun j => ⟨[(45, .i .i64 j), (44, .i .i64 2), (43, .sl [.i .i64 v, .i .i64 u] 2), (9, .rs 32 0 (if j = 0 then O else if j = 1 then sml1 4 O v else sml1 4 (sml1 4 O v) u).length 1), (8, .rf 1000000000031 0), (0, .i .i64 4)], [(1000000000031, [.rf 1000000031 0, B1]), (1000000031, C1), (32, nums .i64 (if j = 0 then O else if j = 1 then sml1 4 O v else sml1 4 (sml1 4 O v) u))]⟩) (by simp (disch := first | assumption | omega | (simp only [List.length_cons, List.length_nil, List.length_set, List.length_append, List.length_replicate, List.length_map, List.length_range, List.length_take, List.length_drop, nums_length, bools_length, vecs_length]; first | done | omega)) []) ?_ ?_
      · intro j hj
        match j, hj with
        | 0, _ =>
          have ws : IntKind.i64.wrap (4 - v) = 4 - v := i64_in _ (by omega)
          have hne : ¬ (O.length : Int) = 256 := by omega
          have hb1 : ((O.length : Int) + 1) * 8 ≤ 140737488355328 := by omega
          by_cases hv : v < 9
          · have e1 : sml1 4 O v = O ++ [4 - v] := by unfold sml1 hlf; rw [if_neg (by omega)]; simp [hv]
            simp (disch := first | assumption | omega | (simp only [List.length_cons, List.length_nil, List.length_set, List.length_append, List.length_replicate, List.length_map, List.length_range, List.length_take, List.length_drop, nums_length, bools_length, vecs_length]; first | done | omega)) [e1, hv, hne, ws, show IntKind.i64.wrap 1 = 1 from rfl]
          · have e1 : sml1 4 O v = O := by unfold sml1 hlf; rw [if_neg (by omega)]; simp [hv]
            simp (disch := first | assumption | omega | (simp only [List.length_cons, List.length_nil, List.length_set, List.length_append, List.length_replicate, List.length_map, List.length_range, List.length_take, List.length_drop, nums_length, bools_length, vecs_length]; first | done | omega)) [e1, hv, hne, ws, show IntKind.i64.wrap 1 = 1 from rfl]
        | 1, _ =>
          have hl1 := (sml1_len 4 O v).2
          generalize sml1 4 O v = O1 at *
          have ws : IntKind.i64.wrap (4 - u) = 4 - u := i64_in _ (by omega)
          have hb1 : ((O1.length : Int) + 1) * 8 ≤ 140737488355328 := by omega
          by_cases hf : O1.length = 256
          · have hne : (O1.length : Int) = 256 := by omega
            have e1 : sml1 4 O1 u = O1 := by unfold sml1; rw [if_pos hf]
            simp (disch := first | assumption | omega | (simp only [List.length_cons, List.length_nil, List.length_set, List.length_append, List.length_replicate, List.length_map, List.length_range, List.length_take, List.length_drop, nums_length, bools_length, vecs_length]; first | done | omega)) [e1, hf, hne, show IntKind.i64.wrap 2 = 2 from rfl]
          · have hne : ¬ (O1.length : Int) = 256 := by omega
            by_cases hv : u < 9
            · have e1 : sml1 4 O1 u = O1 ++ [4 - u] := by unfold sml1 hlf; rw [if_neg hf]; simp [hv]
              simp (disch := first | assumption | omega | (simp only [List.length_cons, List.length_nil, List.length_set, List.length_append, List.length_replicate, List.length_map, List.length_range, List.length_take, List.length_drop, nums_length, bools_length, vecs_length]; first | done | omega)) [e1, hv, hne, ws, show IntKind.i64.wrap 2 = 2 from rfl]
            · have e1 : sml1 4 O1 u = O1 := by unfold sml1 hlf; rw [if_neg hf]; simp [hv]
              simp (disch := first | assumption | omega | (simp only [List.length_cons, List.length_nil, List.length_set, List.length_append, List.length_replicate, List.length_map, List.length_range, List.length_take, List.length_drop, nums_length, bools_length, vecs_length]; first | done | omega)) [e1, hv, hne, ws, show IntKind.i64.wrap 2 = 2 from rfl]
      · simp (disch := first | assumption | omega | (simp only [List.length_cons, List.length_nil, List.length_set, List.length_append, List.length_replicate, List.length_map, List.length_range, List.length_take, List.length_drop, nums_length, bools_length, vecs_length]; first | done | omega)) []
    · generalize sml 4 f N = O at *
      generalize strB 136 31 T N = B0 at *
      generalize strC 136 31 T N = C0 at *
      simp (disch := first | assumption | omega | (simp only [List.length_cons, List.length_nil, List.length_set, List.length_append, List.length_replicate, List.length_map, List.length_range, List.length_take, List.length_drop, nums_length, bools_length, vecs_length]; first | done | omega)) [hN]
theorem sml_ends {L : List Int} (h : ∀ y ∈ L, inK .u8 y) (hl : L.length ≤ 102) (e : Int) : ∃ N, (sml e (stF 136 L) N).length = 256 ∧ ∀ i, i < N → (sml e (stF 136 L) i).length < 256 :=
  sml_end fun i => zeros1 (X := 31) (by omega) (by omega) (fun y hy => by obtain ⟨a, b⟩ := h y hy; exact ⟨a, by have b' : y ≤ 255 := b; omega⟩) hl i
end Zab.YtngoidkconngmaaDoorC
