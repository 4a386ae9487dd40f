/- Numbers of a ball, as the program draws them; how many are not 0. -/
import Derived.Test.YtngoidkconngmaaDoorZabG8
import Derived.Test.YtngoidkconngmaaDoorHStr2
namespace Zab.YtngoidkconngmaaDoorH
open Go
open Go.IntWalk (i64_in)
set_option maxRecDepth 100000
set_option linter.unusedSimpArgs false
set_option linter.unusedVariables false
attribute [-simp] getElem?_pos
attribute [local simp ↓] W_loop W_seq W_skip W_ret W_exit W_reg W_cond W_block W_pre cleanO_some freezes_nil freezes_cons frzO_some andThen_normal andThen_ret andThen_exit unblock_normal unblock_ret unblock_exit Ends_normal Ends_ret steps_nil steps_cons step_some st_move st_pick st_bin st_un st_conv st_addr sv_ixA sv_ixS sv_fld sv_ixV st_ixStr st_ext sv_build sv_bsl sv_mkS st_mkfn sv_lenS sv_len st_mn st_mx st_nilChk st_cap st_mki st_boxE st_buildQ sv_boxQ sv_allocQ sv_appN st_tas st_slc sv_ldE sv_ldg sv_loadg sv_load st_call sv_store sv_box sv_alloc sv_mkR sv_bslR sv_nilR sv_app sv_callK stepsAt_some onSome_some onB_true onB_false onG_tt onG_tf onG_ft onG_ff onG_un optPut_some optMem_some
attribute [local simp] evalO evalL constAV get_cons get_nil put_cons put_nil look_cons look_nil putD_some clean_mk freeze_mk mapS del_cons del_nil keepS_cons keepS_nil keepL_cons keepL_nil memb_cons memb_nil unV pureV convV_i addrV toArgs anyRs hasSl2L finR resL resV one shiftV_shr shiftV_shl IntKind.bits fillV List.getElem?_cons_zero List.getElem?_cons_succ List.length_cons List.length_nil List.set_cons_zero List.set_cons_succ setR2 setR3 zrep_eqs binV_i binI_shl binI_shr binI_eqs binV_eqs binV_slcE binV_slcN lends_nil seesAny_no callK1_fn callK2_some callK3_some recvPut_some hasSlLL_nil hasSlLL_cons recv_os recv_op recv_no recvV_some recv_tp srcV_rs srcR_some List.append_nil intV_quo intV_rem hasSlL mapR_eqs kill1_eqs frz1_eqs isRs_eqs toArg_eqs from1_eqs from_eqs toRet_eqs countR_eqs hasSl1_eqs hasSl2_eqs hasSl_eqs cellsOf_ag1 cellsOf_ag2 cellsOf_ag3 cellsOf_ag4 cellsOf_ag5 partV_2 partV_3 partV_4 partV_5 ownR_of seenR_all seenR_part appS_rs appR_of srcV_sl srcV_z nilS_z bslS_some dec_t dec_f buildV_some bslV_some boxS_some root_mk ixSV_sl ixSV_rs ixAV_rf ixAV_el ixVV_ag fldV_ag lenV_sl lenV_rs lenV_z lenSV_s loadV_rf loadV_el ldEV_el loadR_some partV_none partV_all partV_some storeV_rf setR_one setR_all cellsOf_ag cellsOf_i cellsOf_b cellsOf_sl cellsOf_z cellsOf_er cellsOf_nl cellsOf_np cellsOf_s mkSV_of mkRS_of fl_map fl_kill fl_frz fl_toArg fl_isRs fl_toRet fl_from1 fl_from fl_cells fl_countR nums_length nums_get nums_set nums_append nums_snoc nums_drop nums_take nums_zrep nums_hasSl bools_length bools_get bools_set bools_snoc bools_zrep bools_hasSl vecs_length vecs_get vecs_snoc slcV_sl idxO idx Nat.zero_add Nat.mul_one Nat.add_zero nbeq_dec nble_dec nblt_dec special_nil special_cons mapQ_nil mapQ_cons frzR_some fillQ boxEV_some buildQV_some allPlain_nil allPlain_cons plain_eqs flat_eqs cellQ_eqs loadQ_some partQ_none partQ_some partF_t partF_f allFlat_nil allFlat_cons allQ_nil allQ_cons fldV_aq cellsQ_ag cellsQ_aq cellsQ_eqs cellsOf_ie enterS_nil enterS_cons enterL_nil enterL_cons partsN_nil partsN_cons partRows_nil partRows_cons scatL_nil scatL_cons rowsL_nil rowsL_cons keys_nil keys_cons rootsP_nil rootsP_cons rootsIn_nil rootsIn_cons childP_nil childP_cons childIn_nil childIn_cons okEnter_nil okEnter_cons nodupB_nil nodupB_cons allRoot_nil allRoot_cons noRoots_nil noRoots_cons apart_nil apart_cons allCh_nil allCh_cons kindsOk_nil kindsOk_cons rootB_eq chB_eq isRef_eq child_eq partId_eq okFin_eq slotOf_eqs partN_eqs lentRows_eqs argRows_eqs scat1_eqs rows1_eqs rootsR_eqs rootsA_eqs childR_eqs childA_eqs isRs0_eqs anyRs0_nil anyRs0_cons viewR_look agV_some consV_some consO_some viewL_nil viewL_rs viewL_fl frzP_nil frzP_os frzP_fl from1_op tpV_some fromRetL_nil fromRetL_cons gathL_nil gathC_some gathL_eq gathF_some gathS_some gath1_rf gath1_rs gath1_eqs ownR_ch ownR_cut retQ_some retA_some retN_some retF_some toRet_rf toRets_nil retC_some toRets_cons lentF_some lentG_some lentQ_some lentC_some lentR_op lentR_oq lentA_op lentA_oq lentParts_nil lentParts_cons lentOf_nil lentOf_cons lentR_eqs lentA_eqs countR_nil hasSlC_eqs hasSlCL_nil hasSlCL_cons sees0_nil seesAny_nil namesNot_nil sees0_eqs seesAny_eqs namesNot_eqs sees0_no lendG_some lendF_some lendP_rf lend1_rf lendV_some lendP_rs lend1_rs lendT_some lendPL_nil lendPL_cons lends_eq lendA_nil lendA_cons lendN_some lendP_eqs lend1_eqs putRows_nil putRows_cons kills_nil kills_cons putRS_mk takeRows_nil takeRows_cons rootAt_mk nilsC_some nilsOf_nil nilsOf_cons nilsX_z rootQ_eq rootR_some boxQS_some appR_cut appNS_of recvD_some recvD_none callK4_some backL_nil backC_some backL_cons afterB_some afterK_nil afterK_cons stays_cons staysB_some stays_nil nums_hasSlC bools_hasSlC recv_seven recvR_some recv_oq recv_aq recv_fn recv_ag recv_sl recv_z recv_np recv_nl recv_er recv_ie recv_fl recvT3_some recvT2_some recvT_some take1_os take1_op take1_oq take1_aq take1_fn take1_eqs notTp_eqs fl_slot fl_argRows fl_partN fl_lentRows fl_scat fl_rows1 fl_lentA fl_lentR fl_rootsA fl_rootsR fl_childA fl_childR fl_lendP fl_lend1 fl_isRs0 fl_gath fl_cellQ fl_cellsQ fl_take1 fl_sees0 fl_seesAny fl_namesNot fl_plain List.map_cons List.map_nil List.isEmpty_nil List.isEmpty_cons stepsAt_some onSome_some onB_true onB_false onG_tt onG_tf onG_ft onG_ff onG_un optPut_some optMem_some

theorem weight {x : AV} {L : List Int} (hx : IsL .i64 x L) (hs : L.length < 9223372036854775807) : FF tab 60 [x] = some ⟨.i .i64 (cnt L L.length), []⟩ := by
  refine call_by (A := A60) rfl rfl ?_
  have fx := hx.flat
  have lx := lenV_isL hx
  simp (disch := first | assumption | omega | (simp only [List.length_cons, List.length_nil, List.length_set, List.length_append, List.length_replicate, List.length_map, List.length_range, List.length_take, List.length_drop, nums_length, bools_length, vecs_length]; first | done | omega)) [A60]
  refine w_heads L.length (fun k => ⟨[(4, .i .i64 k), (3, .i .i64 (cnt L k)), (0, x)], []⟩) (by simp (disch := first | assumption | omega | (simp only [List.length_cons, List.length_nil, List.length_set, List.length_append, List.length_replicate, List.length_map, List.length_range, List.length_take, List.length_drop, nums_length, bools_length, vecs_length]; first | done | omega)) [cnt]) ?_ ?_
  · intro k hk
    have w1 : IntKind.i64.wrap ((k : Int) + 1) = (k : Int) + 1 := i64_in _ (by omega)
    have hc := cnt_le L k
    have w2 : IntKind.i64.wrap ((cnt L k : Int) + 1) = (cnt L k : Int) + 1 := i64_in _ (by omega)
    have hkn : (k : Int).toNat = k := Int.toNat_natCast _
    have ix := ixSV_isL hx (k' := .i64) (j := (k : Int)) (by omega) (by omega)
    rw [hkn] at ix
    have gx := nums_get (k := .i64) (L := L) (j := k) (by omega)
    have hlt : (k : Int) < (L.length : Int) := by omega
    by_cases h0 : ni L k = 0
    · have e1 : cnt L (k + 1) = cnt L k := by rw [cnt, if_pos h0]
      rw [e1]
      generalize cnt L k = c at *
      generalize hT : (k : Int) = T at *
      simp (disch := first | assumption | omega | (simp only [List.length_cons, List.length_nil, List.length_set, List.length_append, List.length_replicate, List.length_map, List.length_range, List.length_take, List.length_drop, nums_length, bools_length, vecs_length]; first | done | omega)) [lx, ix, gx, h0, hlt, w1, hT]
    · have e1 : cnt L (k + 1) = cnt L k + 1 := by rw [cnt, if_neg h0]
      rw [e1]
      generalize cnt L k = c at *
      generalize ni L k = y at *
      generalize hT : (k : Int) = T at *
      simp (disch := first | assumption | omega | (simp only [List.length_cons, List.length_nil, List.length_set, List.length_append, List.length_replicate, List.length_map, List.length_range, List.length_take, List.length_drop, nums_length, bools_length, vecs_length]; first | done | omega)) [lx, ix, gx, h0, hlt, w1, w2, hT]
  · simp (disch := first | assumption | omega | (simp only [List.length_cons, List.length_nil, List.length_set, List.length_append, List.length_replicate, List.length_map, List.length_range, List.length_take, List.length_drop, nums_length, bools_length, vecs_length]; first | done | omega)) [lx]

set_option maxHeartbeats 8000000 in
theorem pBall {x : AV} {L : List Int} (hx : IsL .u8 x L) (hB : Bys L) {tau : Nat} (t0 : 1 ≤ tau) (t1 : tau ≤ 64) {f : Nat → Int} (hf : f = bt 136 (padS 136 31 (takeL 136 (zL 25, 0) L)))
    {p : Nat → Nat} (hp : ∀ m, m < tau → IsJ f (256 - tau + m) (bq p m) (p m)) :
    FF tab 48 [.i .i64 tau, x] = some ⟨.tp [.os (nums .i64 (bo f (sgn f 8) tau p tau)) 256 1, .nl], []⟩ := by
  refine call_by (A := A48) rfl rfl ?_
  have fx := hx.flat
  have hO := pOpen (R := 136) (by omega) (by omega) (by omega) hx hB (IsL.none .u8) ⟨by simp, by simp⟩
  rw [List.append_nil, show ((136 : Nat) : Int) = 136 from rfl] at hO
  have hZ : (zL 25).length = 25 := zL_len 25
  obtain ⟨a1, a2⟩ := takeL_ok (R := 136) L (S := (zL 25, 0)) hZ (by show 0 < 136; omega)
  generalize takeL 136 (zL 25, 0) L = T at *
  have hn := pNext a1 (by omega) (by omega) a2 (X := 31) (by omega) (by omega)
  have hb := bt_in 136 (padS 136 31 T)
  rw [← hf] at hn hb
  clear hf
  have fb := strB_flat 136 31 T
  have f0 := fb 0
  have e0 : strB 136 31 T 0 = .z := rfl
  have c1 : ¬ (tau : Int) < 1 := by omega
  have c2 : ¬ (64 : Int) < tau := by omega
  simp (disch := first | assumption | omega | (simp only [List.length_cons, List.length_nil, List.length_set, List.length_append, List.length_replicate, List.length_map, List.length_range, List.length_take, List.length_drop, nums_length, bools_length, vecs_length]; first | done | omega)) [A48, hO, c1, c2]
  -- the signs
  refine w_heads 8 (fun k => ⟨[(21, .i .i64 k), (7, .i .u64 (iv (sgn f k))), (6, .rf 1000000000020 0), (0, .i .i64 tau)], [(1000000000020, [.rf 1000000020 0, strB 136 31 T k]), (1000000020, strC 136 31 T k)]⟩) (by simp (disch := first | assumption | omega | (simp only [List.length_cons, List.length_nil, List.length_set, List.length_append, List.length_replicate, List.length_map, List.length_range, List.length_take, List.length_drop, nums_length, bools_length, vecs_length]; first | done | omega)) [sgn, e0, show iv 0#64 = 0 from rfl]) ?_ ?_
  · intro k hk
    obtain ⟨u0, u1⟩ := hb k
    have n0 := hn k
    have g0 := fb k
    have g1 := fb (k + 1)
    have es : sgn f (k + 1) = sgn f k ||| (BitVec.ofInt 64 (f k) <<< (8 * k)) := rfl
    obtain ⟨y2, y3⟩ := shl_byte (f k) u0 u1 (n := 8 * k) (by omega)
    have wk : IntKind.i64.wrap ((k : Int) + 1) = (k : Int) + 1 := i64_in _ (by omega)
    have w8 : IntKind.i64.wrap (8 * (k : Int)) = ((8 * k : Nat) : Int) := by rw [i64_in _ (by omega)]; omega
    have ho := bitV_or (sgn f k) (BitVec.ofInt 64 (f k) <<< (8 * k))
    have hlt : (k : Int) < 8 := by omega
    rw [es]
    generalize sgn f k ||| (BitVec.ofInt 64 (f k) <<< (8 * k)) = V at *
    generalize BitVec.ofInt 64 (f k) <<< (8 * k) = U at *
    generalize sgn f k = S at *
    generalize f k = y at *
    generalize ((8 * k : Nat) : Int) = E at *
    generalize strB 136 31 T k = B0 at *
    generalize strB 136 31 T (k + 1) = B1 at *
    generalize strC 136 31 T k = C0 at *
    generalize strC 136 31 T (k + 1) = C1 at *
    generalize hT' : (k : Int) = K at *
    simp (disch := first | assumption | omega | (simp only [List.length_cons, List.length_nil, List.length_set, List.length_append, List.length_replicate, List.length_map, List.length_range, List.length_take, List.length_drop, nums_length, bools_length, vecs_length]; first | done | omega)) [hlt, n0, y2, y3, wk, w8, ho, hT', -shiftV_shl, -shiftV_shr]
  · generalize sgn f 8 = W at *
    have g8 := fb 8
    have wt : IntKind.i64.wrap (256 - (tau : Int)) = ((256 - tau : Nat) : Int) := by rw [i64_in _ (by omega)]; omega
    simp (disch := first | assumption | omega | (simp only [List.length_cons, List.length_nil, List.length_set, List.length_append, List.length_replicate, List.length_map, List.length_range, List.length_take, List.length_drop, nums_length, bools_length, vecs_length]; first | done | omega)) [wt]
    refine w_heads tau (fun m => ⟨[(10, .i .i64 ((256 - tau + m : Nat) : Int)), (9, .rs 33 0 256 1), (7, .i .u64 (iv (W >>> m))), (6, .rf 1000000000020 0)], [(1000000000020, [.rf 1000000020 0, strB 136 31 T (bq p m)]), (1000000020, strC 136 31 T (bq p m)), (33, nums .i64 (bo f W tau p m))]⟩) (by simp (disch := first | assumption | omega | (simp only [List.length_cons, List.length_nil, List.length_set, List.length_append, List.length_replicate, List.length_map, List.length_range, List.length_take, List.length_drop, nums_length, bools_length, vecs_length]; first | done | omega)) [bq, bo, nums_zrep, show W >>> 0 = W from BitVec.ushiftRight_zero W]) ?_ ?_
    · intro m hm
      have hj := hp m hm
      have hbl := bo_len f W tau p m
      have eo : bo f W tau p (m + 1) = ((bo f W tau p m).set (256 - tau + m) (ni (bo f W tau p m) (f (p m)).toNat)).set (f (p m)).toNat (sv (W >>> m)) := rfl
      have eq : bq p (m + 1) = p m + 1 := rfl
      rw [eo, eq]
      have hi : 256 - tau + m < 256 := by omega
      rw [show 256 - tau + (m + 1) = 256 - tau + m + 1 by omega]
      generalize 256 - tau + m = i at *
      generalize bo f W tau p m = O at *
      generalize bq p m = q at *
      obtain ⟨j1, j2, j3⟩ := hj
      generalize p m = P at *
      have hi2 : (i : Int) < 256 := by omega
      obtain ⟨u0, u1⟩ := hb q
      have n0 := hn q
      have g0 := fb q
      have g1 := fb (q + 1)
      have wy : IntKind.i64.wrap (f q) = f q := i64_in _ (by omega)
      have hw : W >>> (m + 1) = (W >>> m) >>> 1 := by rw [BitVec.shiftRight_add]
      rw [hw]
      generalize W >>> m = V at *
      simp (disch := first | assumption | omega | (simp only [List.length_cons, List.length_nil, List.length_set, List.length_append, List.length_replicate, List.length_map, List.length_range, List.length_take, List.length_drop, nums_length, bools_length, vecs_length]; first | done | omega)) [hi2, n0, wy]
      refine w_heads (P - q) (fun k => ⟨[(11, .i .i64 (f (q + k))), (10, .i .i64 i), (9, .rs 33 0 256 1), (7, .i .u64 (iv V)), (6, .rf 1000000000020 0)], [(1000000000020, [.rf 1000000020 0, strB 136 31 T (q + k + 1)]), (1000000020, strC 136 31 T (q + k + 1)), (33, nums .i64 O)]⟩) (by simp (disch := first | assumption | omega | (simp only [List.length_cons, List.length_nil, List.length_set, List.length_append, List.length_replicate, List.length_map, List.length_range, List.length_take, List.length_drop, nums_length, bools_length, vecs_length]; first | done | omega)) []) ?_ ?_
      · intro k hk
        have hgt := j3 (q + k) (by omega) (by omega)
        obtain ⟨v0, v1⟩ := hb (q + k + 1)
        have n1 := hn (q + k + 1)
        have g2 := fb (q + k + 1)
        have g3 := fb (q + k + 1 + 1)
        have wz : IntKind.i64.wrap (f (q + k + 1)) = f (q + k + 1) := i64_in _ (by omega)
        rw [show q + (k + 1) = q + k + 1 from rfl]
        generalize f (q + k + 1) = z at *
        generalize f (q + k) = y at *
        generalize strB 136 31 T (q + k + 1) = B0 at *
        generalize strB 136 31 T (q + k + 1 + 1) = B1 at *
        generalize strC 136 31 T (q + k + 1) = C0 at *
        generalize strC 136 31 T (q + k + 1 + 1) = C1 at *
        simp (disch := first | assumption | omega | (simp only [List.length_cons, List.length_nil, List.length_set, List.length_append, List.length_replicate, List.length_map, List.length_range, List.length_take, List.length_drop, nums_length, bools_length, vecs_length]; first | done | omega)) [hgt, n1, wz]
      · rw [show q + (P - q) = P by omega]
        obtain ⟨v0, v1⟩ := hb P
        have g2 := fb (P + 1)
        have hng : ¬ (i : Int) < f P := by omega
        have tn : (f P).toNat < 256 := by omega
        have ti : (i : Int).toNat = i := Int.toNat_natCast _
        have b1 : f P < 256 := v1
        have gO := nums_get (k := .i64) (L := O) (j := (f P).toNat) (by omega)
        have ha := bitV_and V 1
        rw [show iv 1 = 1 from rfl] at ha
        have hsv : sv V = 1 - 2 * iv (V &&& 1) := rfl
        have hb01 := sv_eq V
        have hsh := shr_u64 V (n := 1) (by omega)
        rw [show ((1 : Nat) : Int) = 1 from rfl] at hsh
        have wc : IntKind.i64.wrap (iv (V &&& 1)) = iv (V &&& 1) := i64_in _ (by omega)
        have wm : IntKind.i64.wrap (2 * iv (V &&& 1)) = 2 * iv (V &&& 1) := i64_in _ (by omega)
        have ws : IntKind.i64.wrap (1 - 2 * iv (V &&& 1)) = sv V := by rw [hsv]; exact i64_in _ (by omega)
        have wi : IntKind.i64.wrap ((i : Int) + 1) = ((i + 1 : Nat) : Int) := by rw [i64_in _ (by omega)]; omega
        generalize sv V = Y at *
        generalize iv (V &&& 1) = D at *
        generalize f P = j at *
        generalize strB 136 31 T (P + 1) = B0 at *
        generalize strC 136 31 T (P + 1) = C0 at *
        simp (disch := first | assumption | omega | (simp only [List.length_cons, List.length_nil, List.length_set, List.length_append, List.length_replicate, List.length_map, List.length_range, List.length_take, List.length_drop, nums_length, bools_length, vecs_length]; first | done | omega)) [hng, ti, gO, ha, hsh, wc, wm, ws, wi, hi2, -shiftV_shl, -shiftV_shr]
    · have hbl := bo_len f W tau p tau
      rw [show 256 - tau + tau = 256 by omega]
      generalize bo f W tau p tau = O at *
      generalize strB 136 31 T (bq p tau) = B0 at *
      generalize strC 136 31 T (bq p tau) = C0 at *
      simp (disch := first | assumption | omega | (simp only [List.length_cons, List.length_nil, List.length_set, List.length_append, List.length_replicate, List.length_map, List.length_range, List.length_take, List.length_drop, nums_length, bools_length, vecs_length]; first | done | omega)) []
end Zab.YtngoidkconngmaaDoorH
