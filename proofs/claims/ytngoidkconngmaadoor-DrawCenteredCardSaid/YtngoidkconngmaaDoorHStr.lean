/- Streams: what the program's and the document's functions give back. -/
import Derived.Test.YtngoidkconngmaaDoorZabG8
import Derived.Test.YtngoidkconngmaaDoorHSpo7
namespace Zab.YtngoidkconngmaaDoorH
open Go
open Go.IntWalk (i64_in)
set_option maxRecDepth 100000
set_option linter.unusedSimpArgs false
set_option linter.unusedVariables false
attribute [-simp] getElem?_pos
attribute [local simp ↓] W_loop W_seq W_skip W_ret W_exit W_reg W_cond W_block W_pre cleanO_some freezes_nil freezes_cons frzO_some andThen_normal andThen_ret andThen_exit unblock_normal unblock_ret unblock_exit Ends_normal Ends_ret steps_nil steps_cons step_some st_move st_pick st_bin st_un st_conv st_addr sv_ixA sv_ixS sv_fld sv_ixV st_ixStr st_ext sv_build sv_bsl sv_mkS st_mkfn sv_lenS sv_len st_mn st_mx st_nilChk st_cap st_mki st_boxE st_buildQ sv_boxQ sv_allocQ sv_appN st_tas st_slc sv_ldE sv_ldg sv_loadg sv_load st_call sv_store sv_box sv_alloc sv_mkR sv_bslR sv_nilR sv_app sv_callK stepsAt_some onSome_some onB_true onB_false onG_tt onG_tf onG_ft onG_ff onG_un optPut_some optMem_some
attribute [local simp] evalO evalL constAV get_cons get_nil put_cons put_nil look_cons look_nil putD_some clean_mk freeze_mk mapS del_cons del_nil keepS_cons keepS_nil keepL_cons keepL_nil memb_cons memb_nil unV pureV convV_i addrV toArgs anyRs hasSl2L finR resL resV one shiftV_shr shiftV_shl IntKind.bits fillV List.getElem?_cons_zero List.getElem?_cons_succ List.length_cons List.length_nil List.set_cons_zero List.set_cons_succ setR2 setR3 zrep_eqs binV_i binI_shl binI_shr binI_eqs binV_eqs binV_slcE binV_slcN lends_nil seesAny_no callK1_fn callK2_some callK3_some recvPut_some hasSlLL_nil hasSlLL_cons recv_os recv_op recv_no recvV_some recv_tp srcV_rs srcR_some List.append_nil intV_quo intV_rem hasSlL mapR_eqs kill1_eqs frz1_eqs isRs_eqs toArg_eqs from1_eqs from_eqs toRet_eqs countR_eqs hasSl1_eqs hasSl2_eqs hasSl_eqs cellsOf_ag1 cellsOf_ag2 cellsOf_ag3 cellsOf_ag4 cellsOf_ag5 partV_2 partV_3 partV_4 partV_5 ownR_of seenR_all seenR_part appS_rs appR_of srcV_sl srcV_z nilS_z bslS_some dec_t dec_f buildV_some bslV_some boxS_some root_mk ixSV_sl ixSV_rs ixAV_rf ixAV_el ixVV_ag fldV_ag lenV_sl lenV_rs lenV_z lenSV_s loadV_rf loadV_el ldEV_el loadR_some partV_none partV_all partV_some storeV_rf setR_one setR_all cellsOf_ag cellsOf_i cellsOf_b cellsOf_sl cellsOf_z cellsOf_er cellsOf_nl cellsOf_np cellsOf_s mkSV_of mkRS_of fl_map fl_kill fl_frz fl_toArg fl_isRs fl_toRet fl_from1 fl_from fl_cells fl_countR nums_length nums_get nums_set nums_append nums_snoc nums_drop nums_take nums_zrep nums_hasSl bools_length bools_get bools_set bools_snoc bools_zrep bools_hasSl vecs_length vecs_get vecs_snoc slcV_sl idxO idx Nat.zero_add Nat.mul_one Nat.add_zero nbeq_dec nble_dec nblt_dec special_nil special_cons mapQ_nil mapQ_cons frzR_some fillQ boxEV_some buildQV_some allPlain_nil allPlain_cons plain_eqs flat_eqs cellQ_eqs loadQ_some partQ_none partQ_some partF_t partF_f allFlat_nil allFlat_cons allQ_nil allQ_cons fldV_aq cellsQ_ag cellsQ_aq cellsQ_eqs cellsOf_ie enterS_nil enterS_cons enterL_nil enterL_cons partsN_nil partsN_cons partRows_nil partRows_cons scatL_nil scatL_cons rowsL_nil rowsL_cons keys_nil keys_cons rootsP_nil rootsP_cons rootsIn_nil rootsIn_cons childP_nil childP_cons childIn_nil childIn_cons okEnter_nil okEnter_cons nodupB_nil nodupB_cons allRoot_nil allRoot_cons noRoots_nil noRoots_cons apart_nil apart_cons allCh_nil allCh_cons kindsOk_nil kindsOk_cons rootB_eq chB_eq isRef_eq child_eq partId_eq okFin_eq slotOf_eqs partN_eqs lentRows_eqs argRows_eqs scat1_eqs rows1_eqs rootsR_eqs rootsA_eqs childR_eqs childA_eqs isRs0_eqs anyRs0_nil anyRs0_cons viewR_look agV_some consV_some consO_some viewL_nil viewL_rs viewL_fl frzP_nil frzP_os frzP_fl from1_op tpV_some fromRetL_nil fromRetL_cons gathL_nil gathC_some gathL_eq gathF_some gathS_some gath1_rf gath1_rs gath1_eqs ownR_ch ownR_cut retQ_some retA_some retN_some retF_some toRet_rf toRets_nil retC_some toRets_cons lentF_some lentG_some lentQ_some lentC_some lentR_op lentR_oq lentA_op lentA_oq lentParts_nil lentParts_cons lentOf_nil lentOf_cons lentR_eqs lentA_eqs countR_nil hasSlC_eqs hasSlCL_nil hasSlCL_cons sees0_nil seesAny_nil namesNot_nil sees0_eqs seesAny_eqs namesNot_eqs sees0_no lendG_some lendF_some lendP_rf lend1_rf lendV_some lendP_rs lend1_rs lendT_some lendPL_nil lendPL_cons lends_eq lendA_nil lendA_cons lendN_some lendP_eqs lend1_eqs putRows_nil putRows_cons kills_nil kills_cons putRS_mk takeRows_nil takeRows_cons rootAt_mk nilsC_some nilsOf_nil nilsOf_cons nilsX_z rootQ_eq rootR_some boxQS_some appR_cut appNS_of recvD_some recvD_none callK4_some backL_nil backC_some backL_cons afterB_some afterK_nil afterK_cons stays_cons staysB_some stays_nil nums_hasSlC bools_hasSlC recv_seven recvR_some recv_oq recv_aq recv_fn recv_ag recv_sl recv_z recv_np recv_nl recv_er recv_ie recv_fl recvT3_some recvT2_some recvT_some take1_os take1_op take1_oq take1_aq take1_fn take1_eqs notTp_eqs fl_slot fl_argRows fl_partN fl_lentRows fl_scat fl_rows1 fl_lentA fl_lentR fl_rootsA fl_rootsR fl_childA fl_childR fl_lendP fl_lend1 fl_isRs0 fl_gath fl_cellQ fl_cellsQ fl_take1 fl_sees0 fl_seesAny fl_namesNot fl_plain List.map_cons List.map_nil List.isEmpty_nil List.isEmpty_cons stepsAt_some onSome_some onB_true onB_false onG_tt onG_tf onG_ft onG_ff onG_un optPut_some optMem_some

/-- An empty buffer: bytes are fetched. -/
theorem pNextE {C C' : List AV} {L : List Int} (hL : L.length = 136) (hS : FF tab 140 [.op C, .i .i64 136] = some ⟨.tp [.os (nums .u8 L) 136 1, .nl], [C']⟩) {bf : AV} (hb : bf = .z ∨ bf = .sl [] 0) :
    FF tab 75 [.oq [.op C, bf]] = some ⟨.i .u8 (ni L 0), [[.op C', .sl (nums .u8 ((L.drop 1).take 135)) 135]]⟩ := by
  refine call_by (A := A75) rfl rfl ?_
  have hs : slcV 1 (.sl (nums .u8 L) 136) (some (.i .i64 1)) none none = some (.sl (nums .u8 ((L.drop 1).take 135)) 135) := slc_one (by omega)
  have hg : (nums .u8 L)[0]? = some (.i .u8 (ni L 0)) := nums_get (by omega)
  generalize ni L 0 = y at *
  rcases hb with rfl | rfl
  · simp (disch := first | assumption | omega | (simp only [List.length_cons, List.length_nil, List.length_set, List.length_append, List.length_replicate, List.length_map, List.length_range, List.length_take, List.length_drop, nums_length, bools_length, vecs_length]; first | done | omega)) [A75, hS, hs, hg]
  · simp (disch := first | assumption | omega | (simp only [List.length_cons, List.length_nil, List.length_set, List.length_append, List.length_replicate, List.length_map, List.length_range, List.length_take, List.length_drop, nums_length, bools_length, vecs_length]; first | done | omega)) [A75, hS, hs, hg]
/-- A buffer that has bytes. -/
theorem pNextN {C : List AV} {L : List Int} {n : Nat} (hn : 0 < n) (hL : L.length = n) :
    FF tab 75 [.oq [.op C, .sl (nums .u8 L) n]] = some ⟨.i .u8 (ni L 0), [[.op C, .sl (nums .u8 ((L.drop 1).take (n - 1))) (n - 1)]]⟩ := by
  refine call_by (A := A75) rfl rfl ?_
  have hs : slcV 1 (.sl (nums .u8 L) n) (some (.i .i64 1)) none none = some (.sl (nums .u8 ((L.drop 1).take (n - 1))) (n - 1)) := slc_one (by omega)
  have hg : (nums .u8 L)[0]? = some (.i .u8 (ni L 0)) := nums_get (by omega)
  have h0 : ¬ (n : Int) = 0 := by omega
  have h1 : (0 : Int) < n := by omega
  generalize ni L 0 = y at *
  generalize n - 1 = m at *
  simp (disch := first | assumption | omega | (simp only [List.length_cons, List.length_nil, List.length_set, List.length_append, List.length_replicate, List.length_map, List.length_range, List.length_take, List.length_drop, nums_length, bools_length, vecs_length]; first | done | omega)) [A75, hs, hg, h0, h1]
theorem pNext {R : Nat} {X : Int} {T : List Ln × Nat} (hT : T.1.length = 25) (hR0 : 0 < R) (hR : R ≤ 192) (hp : T.2 < R) (x0 : 0 ≤ X) (x1 : X < 256) (k : Nat) :
    FF tab 75 [.oq [.op (strC R X T k), strB R X T k]] = some ⟨.i .u8 (bt R (padS R X T) k), [[.op (strC R X T (k + 1)), strB R X T (k + 1)]]⟩ := by
  have hS := padS_ok (R := R) hT X
  have hS2 : (padS R X T).2 = 0 := rfl
  obtain ⟨A, p⟩ := T
  simp only at hT hp
  generalize hSS : padS R X (A, p) = S at *
  match k with
  | 0 =>
    have h1 := sSqueeze hT hR0 hR hp x0 x1 (n := 136) (by omega) (by omega)
    rw [hSS] at h1
    have h2 := pNextE (outL_len R S 136) h1 (bf := .z) (.inl rfl)
    have e1 : outL R S 136 = bts R S 0 136 := bts_outL R S 0 136
    have e2 : ni (bts R S 0 136) 0 = bt R S 0 := bts_ni R S 0 136 (by omega)
    have e3 : ((bts R S 0 136).drop 1).take 135 = bts R S 1 135 := by rw [bts_drop R S 0 135, List.take_of_length_le (by rw [bts_len]; omega)]
    rw [show (136 : Int).toNat = 136 from rfl, e1, e2, e3] at h2
    simp only [strC, strB, hSS]
    exact h2
  | j + 1 =>
    have hn := nextN_ok (R := R) (S := S) hR0 hS (by omega) (136 * (j / 136 + 1))
    simp only [strC, strB, hSS]
    by_cases hc : j + 1 = 136 * (j / 136 + 1)
    · have h1 := sSqueezeT hn.1 hR0 hR hn.2 X (n := 136) (by omega) (by omega)
      have h2 := pNextE (outL_len R _ 136) h1 (bf := .sl [] 0) (.inr rfl)
      have e1 : outL R (nextN R S (136 * (j / 136 + 1))) 136 = bts R S (136 * (j / 136 + 1)) 136 := bts_outL R S _ 136
      have e2 : ni (bts R S (136 * (j / 136 + 1)) 136) 0 = bt R S (136 * (j / 136 + 1)) := bts_ni R S _ 136 (by omega)
      have e3 : ((bts R S (136 * (j / 136 + 1)) 136).drop 1).take 135 = bts R S (136 * (j / 136 + 1) + 1) 135 := by rw [bts_drop R S _ 135, List.take_of_length_le (by rw [bts_len]; omega)]
      have e4 : nextN R (nextN R S (136 * (j / 136 + 1))) 136 = nextN R S (136 * ((j + 1) / 136 + 1)) := by
        rw [← nextN_add]; congr 1; omega
      rw [show (136 : Int).toNat = 136 from rfl, show ((nextN R S (136 * (j / 136 + 1))).1, (nextN R S (136 * (j / 136 + 1))).2) = nextN R S (136 * (j / 136 + 1)) from rfl, e1, e2, e3, e4] at h2
      have e5 : 136 * (j / 136 + 1) - (j + 1) = 0 := by omega
      have e6 : 136 * ((j + 1) / 136 + 1) - (j + 1 + 1) = 135 := by omega
      rw [e5, e6]
      have e7 : nums .u8 (bts R S (j + 1) 0) = [] := rfl
      rw [e7, h2, ← hc]
    · have hlt : 136 * (j / 136 + 1) - (j + 1) = (136 * (j / 136 + 1) - (j + 1) - 1) + 1 := by omega
      have h2 := pNextN (C := spC (nextN R S (136 * (j / 136 + 1))).1 R X (nextN R S (136 * (j / 136 + 1))).2 true) (n := 136 * (j / 136 + 1) - (j + 1)) (by omega) (bts_len R S (j + 1) _)
      rw [h2]
      have e0 : (j + 1) / 136 = j / 136 := by omega
      rw [e0, bts_ni R S (j + 1) _ (by omega)]
      have e3 : ((bts R S (j + 1) (136 * (j / 136 + 1) - (j + 1))).drop 1).take (136 * (j / 136 + 1) - (j + 1) - 1) = bts R S (j + 1 + 1) (136 * (j / 136 + 1) - (j + 1) - 1) := by
        conv => lhs; rw [hlt]
        rw [bts_drop, Nat.add_sub_cancel, List.take_of_length_le (by rw [bts_len]; omega)]
      rw [e3]
      congr 1

set_option maxHeartbeats 4000000 in
theorem pOpen {R : Nat} (h0 : 8 ≤ R) (h1 : R ≤ 192) (h8 : R % 8 = 0) {x y : AV} {L M : List Int} (hx : IsL .u8 x L) (hB : Bys L) (hy : IsL .u8 y M) (hC : Bys M) :
    FF tab 74 [.i .i64 R, x, y] = some ⟨.oq [.op (strC R 31 (takeL R (zL 25, 0) (L ++ M)) 0), .z], []⟩ := by
  refine call_by (A := A74) rfl rfl ?_
  have fx := hx.flat
  have fy := hy.flat
  have hZ : (zL 25).length = 25 := zL_len 25
  have hN := sNew h0 h1 h8 (X := 31) (by omega) (by omega)
  have hA := sAbsorb hZ h1 (p := 0) (by omega) 31 hx hB
  rw [show (((0 : Nat)) : Int) = 0 from rfl] at hA
  obtain ⟨a1, a2⟩ := takeL_ok (R := R) L (S := (zL 25, 0)) hZ (by show 0 < R; omega)
  have hA2 := sAbsorb a1 h1 a2 31 hy hC
  rw [show ((takeL R (zL 25, 0) L).1, (takeL R (zL 25, 0) L).2) = takeL R (zL 25, 0) L from rfl, ← takeL_app] at hA2
  simp only [strC]
  generalize takeL R (zL 25, 0) (L ++ M) = S2 at *
  generalize takeL R (zL 25, 0) L = S1 at *
  simp (disch := first | assumption | omega | (simp only [List.length_cons, List.length_nil, List.length_set, List.length_append, List.length_replicate, List.length_map, List.length_range, List.length_take, List.length_drop, nums_length, bools_length, vecs_length]; first | done | omega)) [A74, hN]
  refine w_heads 2 (fun k => ⟨[(24, .i .i64 k), (23, .i .i64 2), (22, .sl [x, y] 2), (7, .rf 1013 0)], [(1013, if k = 0 then spC (zL 25) R 31 0 false else if k = 1 then spC S1.1 R 31 S1.2 false else spC S2.1 R 31 S2.2 false)]⟩) (by simp (disch := first | assumption | omega | (simp only [List.length_cons, List.length_nil, List.length_set, List.length_append, List.length_replicate, List.length_map, List.length_range, List.length_take, List.length_drop, nums_length, bools_length, vecs_length]; first | done | omega)) []) ?_ ?_
  · intro k hk
    match k, hk with
    | 0, _ => simp (disch := first | assumption | omega | (simp only [List.length_cons, List.length_nil, List.length_set, List.length_append, List.length_replicate, List.length_map, List.length_range, List.length_take, List.length_drop, nums_length, bools_length, vecs_length]; first | done | omega)) [hA, show IntKind.i64.wrap 1 = 1 from rfl]
    | 1, _ => simp (disch := first | assumption | omega | (simp only [List.length_cons, List.length_nil, List.length_set, List.length_append, List.length_replicate, List.length_map, List.length_range, List.length_take, List.length_drop, nums_length, bools_length, vecs_length]; first | done | omega)) [hA2, show IntKind.i64.wrap 2 = 2 from rfl]
  · simp (disch := first | assumption | omega | (simp only [List.length_cons, List.length_nil, List.length_set, List.length_append, List.length_replicate, List.length_map, List.length_range, List.length_take, List.length_drop, nums_length, bools_length, vecs_length]; first | done | omega)) []
end Zab.YtngoidkconngmaaDoorH
