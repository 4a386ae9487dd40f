/- Small numbers out of bits: both functions, the law. -/
import Derived.Test.YtngoidkconngmaaDoorHDrawD
import Derived.Test.YtngoidkconngmaaDoorHDrawO
import Derived.Test.YtngoidkconngmaaDoorHSee
import Derived.Test.YtngoidkconngmaaDoorHSame
namespace Zab.YtngoidkconngmaaDoorH
open Go
open Go.IntWalk (i64_in)
set_option maxRecDepth 100000
set_option linter.unusedSimpArgs false
set_option linter.unusedVariables false
attribute [-simp] getElem?_pos
attribute [local simp ↓] W_loop W_seq W_skip W_ret W_exit W_reg W_cond W_block W_pre cleanO_some freezes_nil freezes_cons frzO_some andThen_normal andThen_ret andThen_exit unblock_normal unblock_ret unblock_exit Ends_normal Ends_ret steps_nil steps_cons step_some st_move st_pick st_bin st_un st_conv st_addr sv_ixA sv_ixS sv_fld sv_ixV st_ixStr st_ext sv_build sv_bsl sv_mkS st_mkfn sv_lenS sv_len st_mn st_mx st_nilChk st_cap st_mki st_boxE st_buildQ sv_boxQ sv_allocQ sv_appN st_tas st_slc sv_ldE sv_ldg sv_loadg sv_load st_call sv_store sv_box sv_alloc sv_mkR sv_bslR sv_nilR sv_app sv_callK stepsAt_some onSome_some onB_true onB_false onG_tt onG_tf onG_ft onG_ff onG_un optPut_some optMem_some
attribute [local simp] evalO evalL constAV get_cons get_nil put_cons put_nil look_cons look_nil putD_some clean_mk freeze_mk mapS del_cons del_nil keepS_cons keepS_nil keepL_cons keepL_nil memb_cons memb_nil unV pureV convV_i addrV toArgs anyRs hasSl2L finR resL resV one shiftV_shr shiftV_shl IntKind.bits fillV List.getElem?_cons_zero List.getElem?_cons_succ List.length_cons List.length_nil List.set_cons_zero List.set_cons_succ setR2 setR3 zrep_eqs binV_i binI_shl binI_shr binI_eqs binV_eqs binV_slcE binV_slcN lends_nil seesAny_no callK1_fn callK2_some callK3_some recvPut_some hasSlLL_nil hasSlLL_cons recv_os recv_op recv_no recvV_some recv_tp srcV_rs srcR_some List.append_nil intV_quo intV_rem hasSlL mapR_eqs kill1_eqs frz1_eqs isRs_eqs toArg_eqs from1_eqs from_eqs toRet_eqs countR_eqs hasSl1_eqs hasSl2_eqs hasSl_eqs cellsOf_ag1 cellsOf_ag2 cellsOf_ag3 cellsOf_ag4 cellsOf_ag5 partV_2 partV_3 partV_4 partV_5 ownR_of seenR_all seenR_part appS_rs appR_of srcV_sl srcV_z nilS_z bslS_some dec_t dec_f buildV_some bslV_some boxS_some root_mk ixSV_sl ixSV_rs ixAV_rf ixAV_el ixVV_ag fldV_ag lenV_sl lenV_rs lenV_z lenSV_s loadV_rf loadV_el ldEV_el loadR_some partV_none partV_all partV_some storeV_rf setR_one setR_all cellsOf_ag cellsOf_i cellsOf_b cellsOf_sl cellsOf_z cellsOf_er cellsOf_nl cellsOf_np cellsOf_s mkSV_of mkRS_of fl_map fl_kill fl_frz fl_toArg fl_isRs fl_toRet fl_from1 fl_from fl_cells fl_countR nums_length nums_get nums_set nums_append nums_snoc nums_drop nums_take nums_zrep nums_hasSl bools_length bools_get bools_set bools_snoc bools_zrep bools_hasSl vecs_length vecs_get vecs_snoc slcV_sl idxO idx Nat.zero_add Nat.mul_one Nat.add_zero nbeq_dec nble_dec nblt_dec special_nil special_cons mapQ_nil mapQ_cons frzR_some fillQ boxEV_some buildQV_some allPlain_nil allPlain_cons plain_eqs flat_eqs cellQ_eqs loadQ_some partQ_none partQ_some partF_t partF_f allFlat_nil allFlat_cons allQ_nil allQ_cons fldV_aq cellsQ_ag cellsQ_aq cellsQ_eqs cellsOf_ie enterS_nil enterS_cons enterL_nil enterL_cons partsN_nil partsN_cons partRows_nil partRows_cons scatL_nil scatL_cons rowsL_nil rowsL_cons keys_nil keys_cons rootsP_nil rootsP_cons rootsIn_nil rootsIn_cons childP_nil childP_cons childIn_nil childIn_cons okEnter_nil okEnter_cons nodupB_nil nodupB_cons allRoot_nil allRoot_cons noRoots_nil noRoots_cons apart_nil apart_cons allCh_nil allCh_cons kindsOk_nil kindsOk_cons rootB_eq chB_eq isRef_eq child_eq partId_eq okFin_eq slotOf_eqs partN_eqs lentRows_eqs argRows_eqs scat1_eqs rows1_eqs rootsR_eqs rootsA_eqs childR_eqs childA_eqs isRs0_eqs anyRs0_nil anyRs0_cons viewR_look agV_some consV_some consO_some viewL_nil viewL_rs viewL_fl frzP_nil frzP_os frzP_fl from1_op tpV_some fromRetL_nil fromRetL_cons gathL_nil gathC_some gathL_eq gathF_some gathS_some gath1_rf gath1_rs gath1_eqs ownR_ch ownR_cut retQ_some retA_some retN_some retF_some toRet_rf toRets_nil retC_some toRets_cons lentF_some lentG_some lentQ_some lentC_some lentR_op lentR_oq lentA_op lentA_oq lentParts_nil lentParts_cons lentOf_nil lentOf_cons lentR_eqs lentA_eqs countR_nil hasSlC_eqs hasSlCL_nil hasSlCL_cons sees0_nil seesAny_nil namesNot_nil sees0_eqs seesAny_eqs namesNot_eqs sees0_no lendG_some lendF_some lendP_rf lend1_rf lendV_some lendP_rs lend1_rs lendT_some lendPL_nil lendPL_cons lends_eq lendA_nil lendA_cons lendN_some lendP_eqs lend1_eqs putRows_nil putRows_cons kills_nil kills_cons putRS_mk takeRows_nil takeRows_cons rootAt_mk nilsC_some nilsOf_nil nilsOf_cons nilsX_z rootQ_eq rootR_some boxQS_some appR_cut appNS_of recvD_some recvD_none callK4_some backL_nil backC_some backL_cons afterB_some afterK_nil afterK_cons stays_cons staysB_some stays_nil nums_hasSlC bools_hasSlC recv_seven recvR_some recv_oq recv_aq recv_fn recv_ag recv_sl recv_z recv_np recv_nl recv_er recv_ie recv_fl recvT3_some recvT2_some recvT_some take1_os take1_op take1_oq take1_aq take1_fn take1_eqs notTp_eqs fl_slot fl_argRows fl_partN fl_lentRows fl_scat fl_rows1 fl_lentA fl_lentR fl_rootsA fl_rootsR fl_childA fl_childR fl_lendP fl_lend1 fl_isRs0 fl_gath fl_cellQ fl_cellsQ fl_take1 fl_sees0 fl_seesAny fl_namesNot fl_plain List.map_cons List.map_nil List.isEmpty_nil List.isEmpty_cons stepsAt_some onSome_some onB_true onB_false onG_tt onG_tf onG_ft onG_ff onG_un optPut_some optMem_some

theorem pBit {x : AV} {L : List Int} (hx : IsL .u8 x L) (hI : ∀ y ∈ L, inK .u8 y) {a : Nat} (ha : a / 8 < L.length) (ha2 : a < 1000000) : FF tab 86 [.i .i64 a, .op [x]] = some ⟨.i .i64 (bitZ (val L) a), [[x]]⟩ := by
  refine call_by (A := A86) rfl rfl ?_
  have fx := hx.flat
  have hB := bytes_in hI
  have hb := val_bit hB ha
  have td : (a : Int).tdiv 8 = ((a / 8 : Nat) : Int) := by rw [Int.tdiv_eq_ediv_of_nonneg (by omega)]; omega
  have tm : (a : Int).tmod 8 = ((a % 8 : Nat) : Int) := by rw [Int.tmod_eq_emod_of_nonneg (by omega)]; omega
  have wq : IntKind.i64.wrap ((a / 8 : Nat) : Int) = ((a / 8 : Nat) : Int) := i64_in _ (by omega)
  have ix := ixSV_isL hx (k' := .i64) (j := ((a / 8 : Nat) : Int)) (by omega) (by omega)
  rw [Int.toNat_natCast] at ix
  have gx := nums_get (k := .u8) (L := L) (j := a / 8) ha
  obtain ⟨y0, y1⟩ : 0 ≤ ni L (a / 8) ∧ ni L (a / 8) < 256 := hB _ (by unfold ni; rw [List.getD_eq_getElem?_getD, List.getElem?_eq_getElem ha]; exact List.getElem_mem ha)
  have ey : ni L (a / 8) = ((ni L (a / 8)).toNat : Int) := by omega
  rw [ey] at gx
  have h8 : a % 8 < 8 := Nat.mod_lt _ (by omega)
  have sr := u8_shr (a := (ni L (a / 8)).toNat) (d := a % 8) (by omega)
  have hy : (ni L (a / 8)).toNat / 2 ^ (a % 8) ≤ (ni L (a / 8)).toNat := Nat.div_le_self _ _
  have an := u8_one (a := (ni L (a / 8)).toNat / 2 ^ (a % 8)) (by omega)
  rw [hb, show ((val L / 2 ^ a % 2 : Nat) : Int) = bitZ (val L) a from rfl] at an
  have bl := bitZ_in (val L) a
  have wb : IntKind.i64.wrap (bitZ (val L) a) = bitZ (val L) a := i64_in _ (by omega)
  clear hb
  generalize bitZ (val L) a = B1 at *
  generalize (((ni L (a / 8)).toNat / 2 ^ (a % 8) : Nat) : Int) = Y1 at *
  generalize (((ni L (a / 8)).toNat : Nat) : Int) = Y0 at *
  generalize ((a % 8 : Nat) : Int) = M8 at *
  generalize ((a / 8 : Nat) : Int) = Q8 at *
  generalize (a : Int) = A0 at *
  simp (disch := first | assumption | omega | (simp only [List.length_cons, List.length_nil, List.length_set, List.length_append, List.length_replicate, List.length_map, List.length_range, List.length_take, List.length_drop, nums_length, bools_length, vecs_length]; first | done | omega)) [A86, td, tm, wq, ix, gx, sr, an, wb, -shiftV_shl, -shiftV_shr]
theorem right_kem : Right 3329 := by unfold Right; omega
set_option maxHeartbeats 8000000 in
theorem pCentered {e : Nat} (he : e = 2 ∨ e = 3) {x : AV} {L : List Int} (hx : IsL .u8 x L) (hI : ∀ y ∈ L, inK .u8 y) (hl : L.length = 64 * e) :
    FF tab 28 [.i .i64 e, x] = some ⟨.tp [.os (nums .i64 ((List.range 256).map (cen (val L) e))) 256 1, .nl], []⟩ := by
  refine call_by (A := A28) rfl rfl ?_
  have fx := hx.flat
  have lx := lenV_isL hx
  have w64 : IntKind.i64.wrap (64 * (e : Int)) = (L.length : Int) := by rw [i64_in _ (by omega)]; omega
  rw [← fillTo_all]
  have tl := fillTo_len (cen (val L) e) 256
  have hc : (((e : Int) = 2) = True ∧ ((e : Int) = 2) = True) ∨ (((e : Int) = 2) = False ∧ ((e : Int) = 3) = True) := by
    rcases he with rfl | rfl
    · exact .inl ⟨eq_true rfl, eq_true rfl⟩
    · exact .inr ⟨eq_false (by decide), eq_true rfl⟩
  have e3 : e ≤ 3 := by omega
  rcases hc with ⟨k2, k3⟩ | ⟨k2, k3⟩
  all_goals
    simp (disch := first | assumption | omega | (simp only [List.length_cons, List.length_nil, List.length_set, List.length_append, List.length_replicate, List.length_map, List.length_range, List.length_take, List.length_drop, nums_length, bools_length, vecs_length]; first | done | omega)) [A28, lx, w64, k2, k3]
    refine w_heads 256 (fun i => ⟨[(30, .i .i64 i), (29, .i .i64 256), (7, .rs 27 0 256 1), (6, .fn 86 [.rf 3 0]), (0, .i .i64 e)], [(27, nums .i64 (fillTo (cen (val L) e) 256 i)), (3, [x])]⟩) (by simp (disch := first | assumption | omega | (simp only [List.length_cons, List.length_nil, List.length_set, List.length_append, List.length_replicate, List.length_map, List.length_range, List.length_take, List.length_drop, nums_length, bools_length, vecs_length]; first | done | omega)) [fillTo_zero]) ?_ ?_
    · intro i hi
      have hi2 : (i : Int) < 256 := by omega
      have ti : (i : Int).toNat = i := Int.toNat_natCast _
      have wi : IntKind.i64.wrap ((i : Int) + 1) = (i : Int) + 1 := i64_in _ (by omega)
      have t0 := tl i
      have st := fillTo_set (cen (val L) e) hi
      generalize fillTo (cen (val L) e) 256 (i + 1) = T1 at *
      generalize fillTo (cen (val L) e) 256 i = T0 at *
      simp (disch := first | assumption | omega | (simp only [List.length_cons, List.length_nil, List.length_set, List.length_append, List.length_replicate, List.length_map, List.length_range, List.length_take, List.length_drop, nums_length, bools_length, vecs_length]; first | done | omega)) [hi2]
      refine w_heads e (fun k => ⟨[(34, .i .i64 k), (33, .i .i64 e), (30, .i .i64 i), (29, .i .i64 256), (9, .i .i64 (cenS (val L) e i k)), (8, .i .i64 i), (7, .rs 27 0 256 1), (6, .fn 86 [.rf 3 0]), (0, .i .i64 e)], [(27, nums .i64 T0), (3, [x])]⟩) (by simp (disch := first | assumption | omega | (simp only [List.length_cons, List.length_nil, List.length_set, List.length_append, List.length_replicate, List.length_map, List.length_range, List.length_take, List.length_drop, nums_length, bools_length, vecs_length]; first | done | omega)) [cenS]) ?_ ?_
      · intro k hk
        have hk2 : (k : Int) < e := by omega
        have wk : IntKind.i64.wrap ((k : Int) + 1) = (k : Int) + 1 := i64_in _ (by omega)
        have hP : 2 * i * e ≤ 510 * e := Nat.mul_le_mul_right _ (by omega)
        have m1 : IntKind.i64.wrap (2 * (i : Int)) = ((2 * i : Nat) : Int) := by rw [i64_in _ (by omega)]; omega
        have m2 : IntKind.i64.wrap (((2 * i : Nat) : Int) * e) = ((2 * i * e : Nat) : Int) := by rw [show ((2 * i : Nat) : Int) * e = ((2 * i * e : Nat) : Int) by simp]; exact i64_in _ (by omega)
        have m3 : IntKind.i64.wrap (((2 * i * e : Nat) : Int) + k) = ((2 * i * e + k : Nat) : Int) := by rw [show ((2 * i * e : Nat) : Int) + k = ((2 * i * e + k : Nat) : Int) by omega]; exact i64_in _ (by omega)
        have m4 : IntKind.i64.wrap (((2 * i * e : Nat) : Int) + e) = ((2 * i * e + e : Nat) : Int) := by rw [show ((2 * i * e : Nat) : Int) + e = ((2 * i * e + e : Nat) : Int) by omega]; exact i64_in _ (by omega)
        have m5 : IntKind.i64.wrap (((2 * i * e + e : Nat) : Int) + k) = ((2 * i * e + e + k : Nat) : Int) := by rw [show ((2 * i * e + e : Nat) : Int) + k = ((2 * i * e + e + k : Nat) : Int) by omega]; exact i64_in _ (by omega)
        have b1 := pBit hx hI (a := 2 * i * e + k) (by omega) (by omega)
        have b2 := pBit hx hI (a := 2 * i * e + e + k) (by omega) (by omega)
        have cS := cenS_in (val L) e i k
        have r1 := bitZ_in (val L) (2 * i * e + k)
        have r2 := bitZ_in (val L) (2 * i * e + e + k)
        have es : cenS (val L) e i (k + 1) = cenS (val L) e i k + (bitZ (val L) (2 * i * e + k) - bitZ (val L) (2 * i * e + e + k)) := rfl
        have w1 : IntKind.i64.wrap (bitZ (val L) (2 * i * e + k) - bitZ (val L) (2 * i * e + e + k)) = bitZ (val L) (2 * i * e + k) - bitZ (val L) (2 * i * e + e + k) := i64_in _ (by omega)
        have w2 : IntKind.i64.wrap (cenS (val L) e i k + (bitZ (val L) (2 * i * e + k) - bitZ (val L) (2 * i * e + e + k))) = cenS (val L) e i (k + 1) := by rw [es]; exact i64_in _ (by omega)
        clear es
        generalize cenS (val L) e i (k + 1) = S1 at *
        generalize cenS (val L) e i k = S0 at *
        generalize bitZ (val L) (2 * i * e + k) = B1 at *
        generalize bitZ (val L) (2 * i * e + e + k) = B2 at *
        generalize ((2 * i * e + e + k : Nat) : Int) = P5 at *
        generalize ((2 * i * e + k : Nat) : Int) = P4 at *
        generalize ((2 * i * e + e : Nat) : Int) = P3 at *
        generalize ((2 * i * e : Nat) : Int) = P2 at *
        generalize ((2 * i : Nat) : Int) = P1 at *
        simp (disch := first | assumption | omega | (simp only [List.length_cons, List.length_nil, List.length_set, List.length_append, List.length_replicate, List.length_map, List.length_range, List.length_take, List.length_drop, nums_length, bools_length, vecs_length]; first | done | omega)) [hk2, wk, m1, m2, m3, m4, m5, b1, b2, w1, w2]
      · have hM := Mod (cenS (val L) e i e) right_kem
        rw [show cenS (val L) e i e % 3329 = cen (val L) e i from rfl] at hM
        generalize cen (val L) e i = C at *
        generalize cenS (val L) e i e = S0 at *
        simp (disch := first | assumption | omega | (simp only [List.length_cons, List.length_nil, List.length_set, List.length_append, List.length_replicate, List.length_map, List.length_range, List.length_take, List.length_drop, nums_length, bools_length, vecs_length]; first | done | omega)) [hM, wi, ti, t0, st, hi2]
    · have t0 := tl 256
      generalize fillTo (cen (val L) e) 256 256 = T at *
      simp (disch := first | assumption | omega | (simp only [List.length_cons, List.length_nil, List.length_set, List.length_append, List.length_replicate, List.length_map, List.length_range, List.length_take, List.length_drop, nums_length, bools_length, vecs_length]; first | done | omega)) [t0]
theorem pCentE {e : Int} {x : AV} (fx : x.flat = true) (h2 : ¬ e = 2) (h3 : ¬ e = 3) : FF tab 28 [.i .i64 e, x] = some ⟨.tp [.z, .er 1], []⟩ := by
  refine call_by (A := A28) rfl rfl ?_
  simp (disch := first | assumption | omega | (simp only [List.length_cons, List.length_nil, List.length_set, List.length_append, List.length_replicate, List.length_map, List.length_range, List.length_take, List.length_drop, nums_length, bools_length, vecs_length]; first | done | omega)) [A28, h2, h3]
theorem pCentL {e : Int} {x : AV} {L : List Int} (hx : IsL .u8 x L) (he : e = 2 ∨ e = 3) (hs : L.length < 1000000) (hl : ¬ (L.length : Int) = 64 * e) : FF tab 28 [.i .i64 e, x] = some ⟨.tp [.z, .er 2], []⟩ := by
  refine call_by (A := A28) rfl rfl ?_
  have fx := hx.flat
  have lx := lenV_isL hx
  rcases he with rfl | rfl
  · have w : IntKind.i64.wrap 128 = 128 := rfl
    have c : ¬ (L.length : Int) = 128 := by omega
    simp (disch := first | assumption | omega | (simp only [List.length_cons, List.length_nil, List.length_set, List.length_append, List.length_replicate, List.length_map, List.length_range, List.length_take, List.length_drop, nums_length, bools_length, vecs_length]; first | done | omega)) [A28, lx, w, c]
  · have w : IntKind.i64.wrap 192 = 192 := rfl
    have c : ¬ (L.length : Int) = 192 := by omega
    simp (disch := first | assumption | omega | (simp only [List.length_cons, List.length_nil, List.length_set, List.length_append, List.length_replicate, List.length_map, List.length_range, List.length_take, List.length_drop, nums_length, bools_length, vecs_length]; first | done | omega)) [A28, lx, w, c]
set_option maxHeartbeats 8000000 in
theorem dCentered {e : Nat} (he : e = 2 ∨ e = 3) {x : AV} {L : List Int} (hx : IsL .u8 x L) (hI : ∀ y ∈ L, inK .u8 y) (hl : L.length = 64 * e) :
    FF tab 30 [.i .i64 e, x] = some ⟨.os (nums .i64 ((List.range 256).map (cen (val L) e))) 256 1, []⟩ := by
  refine call_by (A := A30) rfl rfl ?_
  have fx := hx.flat
  have e3 : e ≤ 3 := by omega
  simp (disch := first | assumption | omega | (simp only [List.length_cons, List.length_nil, List.length_set, List.length_append, List.length_replicate, List.length_map, List.length_range, List.length_take, List.length_drop, nums_length, bools_length, vecs_length]; first | done | omega)) [A30]
  refine w_heads 256 (fun i => ⟨[(6, .i .i64 i), (5, .rs 5 0 ((List.range i).map (cen (val L) e)).length 1), (1, x), (0, .i .i64 e)], [(5, nums .i64 ((List.range i).map (cen (val L) e)))]⟩) (by simp (disch := first | assumption | omega | (simp only [List.length_cons, List.length_nil, List.length_set, List.length_append, List.length_replicate, List.length_map, List.length_range, List.length_take, List.length_drop, nums_length, bools_length, vecs_length]; first | done | omega)) [nums_nil]) ?_ ?_
  · intro i hi
    have hi2 : (i : Int) < 256 := by omega
    have wi : IntKind.i64.wrap ((i : Int) + 1) = (i : Int) + 1 := i64_in _ (by omega)
    rw [mapTo_succ]
    have ll : ((List.range i).map (cen (val L) e)).length = i := by simp
    have hb1 : ((((List.range i).map (cen (val L) e)).length : Int) + 1) * 8 ≤ 140737488355328 := by omega
    generalize (List.range i).map (cen (val L) e) = O at *
    simp (disch := first | assumption | omega | (simp only [List.length_cons, List.length_nil, List.length_set, List.length_append, List.length_replicate, List.length_map, List.length_range, List.length_take, List.length_drop, nums_length, bools_length, vecs_length]; first | done | omega)) [hi2]
    refine w_heads e (fun k => ⟨[(8, .i .i64 k), (7, .i .i64 (cenS (val L) e i k)), (6, .i .i64 i), (5, .rs 5 0 O.length 1), (1, x), (0, .i .i64 e)], [(5, nums .i64 O)]⟩) (by simp (disch := first | assumption | omega | (simp only [List.length_cons, List.length_nil, List.length_set, List.length_append, List.length_replicate, List.length_map, List.length_range, List.length_take, List.length_drop, nums_length, bools_length, vecs_length]; first | done | omega)) [cenS]) ?_ ?_
    · intro k hk
      have hk2 : (k : Int) < e := by omega
      have wk : IntKind.i64.wrap ((k : Int) + 1) = (k : Int) + 1 := i64_in _ (by omega)
      have hP : 2 * i * e ≤ 510 * e := Nat.mul_le_mul_right _ (by omega)
      have m1 : IntKind.i64.wrap (2 * (i : Int)) = ((2 * i : Nat) : Int) := by rw [i64_in _ (by omega)]; omega
      have m2 : IntKind.i64.wrap (((2 * i : Nat) : Int) * e) = ((2 * i * e : Nat) : Int) := by rw [show ((2 * i : Nat) : Int) * e = ((2 * i * e : Nat) : Int) by simp]; exact i64_in _ (by omega)
      have m3 : IntKind.i64.wrap (((2 * i * e : Nat) : Int) + k) = ((2 * i * e + k : Nat) : Int) := by rw [show ((2 * i * e : Nat) : Int) + k = ((2 * i * e + k : Nat) : Int) by omega]; exact i64_in _ (by omega)
      have m4 : IntKind.i64.wrap (((2 * i * e : Nat) : Int) + e) = ((2 * i * e + e : Nat) : Int) := by rw [show ((2 * i * e : Nat) : Int) + e = ((2 * i * e + e : Nat) : Int) by omega]; exact i64_in _ (by omega)
      have m5 : IntKind.i64.wrap (((2 * i * e + e : Nat) : Int) + k) = ((2 * i * e + e + k : Nat) : Int) := by rw [show ((2 * i * e + e : Nat) : Int) + k = ((2 * i * e + e + k : Nat) : Int) by omega]; exact i64_in _ (by omega)
      have b1 := dBit hx hI (a := 2 * i * e + k) (by omega) (by omega)
      have b2 := dBit hx hI (a := 2 * i * e + e + k) (by omega) (by omega)
      rw [show ((val L / 2 ^ (2 * i * e + k) % 2 : Nat) : Int) = bitZ (val L) (2 * i * e + k) from rfl] at b1
      rw [show ((val L / 2 ^ (2 * i * e + e + k) % 2 : Nat) : Int) = bitZ (val L) (2 * i * e + e + k) from rfl] at b2
      have cS := cenS_in (val L) e i k
      have r1 := bitZ_in (val L) (2 * i * e + k)
      have r2 := bitZ_in (val L) (2 * i * e + e + k)
      have es : cenS (val L) e i (k + 1) = cenS (val L) e i k + (bitZ (val L) (2 * i * e + k) - bitZ (val L) (2 * i * e + e + k)) := rfl
      have w1 : IntKind.i64.wrap (cenS (val L) e i k + bitZ (val L) (2 * i * e + k)) = cenS (val L) e i k + bitZ (val L) (2 * i * e + k) := i64_in _ (by omega)
      have w2 : IntKind.i64.wrap (cenS (val L) e i k + bitZ (val L) (2 * i * e + k) - bitZ (val L) (2 * i * e + e + k)) = cenS (val L) e i (k + 1) := by rw [es, i64_in _ (by omega)]; omega
      clear es
      generalize cenS (val L) e i (k + 1) = S1 at *
      generalize cenS (val L) e i k = S0 at *
      generalize bitZ (val L) (2 * i * e + k) = B1 at *
      generalize bitZ (val L) (2 * i * e + e + k) = B2 at *
      generalize ((2 * i * e + e + k : Nat) : Int) = P5 at *
      generalize ((2 * i * e + k : Nat) : Int) = P4 at *
      generalize ((2 * i * e + e : Nat) : Int) = P3 at *
      generalize ((2 * i * e : Nat) : Int) = P2 at *
      generalize ((2 * i : Nat) : Int) = P1 at *
      simp (disch := first | assumption | omega | (simp only [List.length_cons, List.length_nil, List.length_set, List.length_append, List.length_replicate, List.length_map, List.length_range, List.length_take, List.length_drop, nums_length, bools_length, vecs_length]; first | done | omega)) [hk2, wk, m1, m2, m3, m4, m5, b1, b2, w1, w2]
    · have cS := cenS_in (val L) e i e
      have ec : cen (val L) e i = cenS (val L) e i e % 3329 := rfl
      have w1 : IntKind.i64.wrap (cenS (val L) e i e + 3329) = cenS (val L) e i e + 3329 := i64_in _ (by omega)
      have tm : (cenS (val L) e i e + 3329).tmod 3329 = cen (val L) e i := by rw [Int.tmod_eq_emod_of_nonneg (by omega), ec]; omega
      clear ec
      generalize cen (val L) e i = C at *
      generalize cenS (val L) e i e = S0 at *
      simp (disch := first | assumption | omega | (simp only [List.length_cons, List.length_nil, List.length_set, List.length_append, List.length_replicate, List.length_map, List.length_range, List.length_take, List.length_drop, nums_length, bools_length, vecs_length]; first | done | omega)) [w1, tm, wi]
  · have ll : ((List.range 256).map (cen (val L) e)).length = 256 := by simp
    generalize (List.range 256).map (cen (val L) e) = O at *
    simp (disch := first | assumption | omega | (simp only [List.length_cons, List.length_nil, List.length_set, List.length_append, List.length_replicate, List.length_map, List.length_range, List.length_take, List.length_drop, nums_length, bools_length, vecs_length]; first | done | omega)) [ll]
theorem range_is9 : FF tab 29 [.er 1, .i .i64 101] = some ⟨.b true, []⟩ := SeeIs (c := 101) (by simp [Code]) 101
theorem length_is9 : FF tab 29 [.er 2, .i .i64 102] = some ⟨.b true, []⟩ := SeeIs (c := 102) (by simp [Code]) 102
set_option maxHeartbeats 8000000 in
theorem DrawCentered (e : Int) (he : inK .i64 e) (x : AV) (L : List Int) (hxN : IsNums .u8 x L) : FF tab 6 [.i .i64 e, x] = some ⟨.b true, []⟩ := by
  have hx := hxN.isL
  have fx := hx.flat
  have lx := lenV_isL hx
  by_cases hl : (200 : Int) < L.length
  · refine call_by (A := A6) rfl rfl ?_
    simp (disch := first | assumption | omega | (simp only [List.length_cons, List.length_nil, List.length_set, List.length_append, List.length_replicate, List.length_map, List.length_range, List.length_take, List.length_drop, nums_length, bools_length, vecs_length]; first | done | omega)) [A6, first9, lx, hl]
  by_cases h23 : e = 2 ∨ e = 3
  · have hc : ((e = 2) = True ∧ (e = 2) = True) ∨ ((e = 2) = False ∧ (e = 3) = True) := by
      rcases h23 with rfl | rfl
      · exact .inl ⟨eq_true rfl, eq_true rfl⟩
      · exact .inr ⟨eq_false (by decide), eq_true rfl⟩
    have w64 : IntKind.i64.wrap (64 * e) = 64 * e := i64_in _ (by omega)
    by_cases h64 : (L.length : Int) = 64 * e
    · obtain ⟨n, hn⟩ : ∃ n : Nat, (n : Int) = e := ⟨e.toNat, by omega⟩
      have hn2 : n = 2 ∨ n = 3 := by omega
      have h1 := pCentered hn2 hx hxN.2 (by omega)
      have h2 := dCentered hn2 hx hxN.2 (by omega)
      rw [hn] at h1 h2
      have hr : ∀ k, k < 256 → 0 ≤ ni ((List.range 256).map (cen (val L) n)) k ∧ (ni ((List.range 256).map (cen (val L) n)) k ≤ e ∨ 3329 - e ≤ ni ((List.range 256).map (cen (val L) n)) k) := by
        intro k hk
        rw [ni_map hk, ← hn]
        exact cen_in (val L) n k (by omega)
      have ll : ((List.range 256).map (cen (val L) n)).length = 256 := by simp
      generalize (List.range 256).map (cen (val L) n) = O at *
      have hI : IsL .i64 (.sl (nums .i64 O) 256) O := .inl (by show _ = AV.sl _ _; rw [ll])
      have h3 := SameInts hI hI (by omega)
      have w3 : IntKind.i64.wrap (3329 - e) = 3329 - e := i64_in _ (by omega)
      have k64 := eq_true h64
      refine call_by (A := A6) rfl rfl ?_
      rcases hc with ⟨k2, k3⟩ | ⟨k2, k3⟩
      all_goals
        simp (disch := first | assumption | omega | (simp only [List.length_cons, List.length_nil, List.length_set, List.length_append, List.length_replicate, List.length_map, List.length_range, List.length_take, List.length_drop, nums_length, bools_length, vecs_length]; first | done | omega)) [A6, first9, lx, hl, h1, k2, k3, k64, w64]
        refine w_heads 256 (fun k => ⟨[(8, .i .i64 k), (7, .nl), (6, .sl (nums .i64 O) 256), (5, .b true), (1, x), (0, .i .i64 e)], []⟩) (by simp (disch := first | assumption | omega | (simp only [List.length_cons, List.length_nil, List.length_set, List.length_append, List.length_replicate, List.length_map, List.length_range, List.length_take, List.length_drop, nums_length, bools_length, vecs_length]; first | done | omega)) []) ?_ ?_
        · intro k hk
          have hk2 : (k : Int) < 256 := by omega
          have tk : (k : Int).toNat = k := Int.toNat_natCast _
          have wk : IntKind.i64.wrap ((k : Int) + 1) = (k : Int) + 1 := i64_in _ (by omega)
          have q := nums_get (k := .i64) (L := O) (j := k) (by omega)
          obtain ⟨r0, r1⟩ := hr k hk
          generalize ni O k = y at *
          by_cases c1 : e < y
          · have c2 : ¬ y < 3329 - e := by omega
            simp (disch := first | assumption | omega | (simp only [List.length_cons, List.length_nil, List.length_set, List.length_append, List.length_replicate, List.length_map, List.length_range, List.length_take, List.length_drop, nums_length, bools_length, vecs_length]; first | done | omega)) [hk2, tk, wk, q, c1, c2, w3]
          · simp (disch := first | assumption | omega | (simp only [List.length_cons, List.length_nil, List.length_set, List.length_append, List.length_replicate, List.length_map, List.length_range, List.length_take, List.length_drop, nums_length, bools_length, vecs_length]; first | done | omega)) [hk2, tk, wk, q, c1, w3]
        · simp (disch := first | assumption | omega | (simp only [List.length_cons, List.length_nil, List.length_set, List.length_append, List.length_replicate, List.length_map, List.length_range, List.length_take, List.length_drop, nums_length, bools_length, vecs_length]; first | done | omega)) [h2, h3]
    · have h1 := pCentL hx h23 (by omega) h64
      have ls := length_is9
      refine call_by (A := A6) rfl rfl ?_
      rcases hc with ⟨k2, k3⟩ | ⟨k2, k3⟩
      all_goals
        simp (disch := first | assumption | omega | (simp only [List.length_cons, List.length_nil, List.length_set, List.length_append, List.length_replicate, List.length_map, List.length_range, List.length_take, List.length_drop, nums_length, bools_length, vecs_length]; first | done | omega)) [A6, first9, lx, hl, h1, k2, k3, h64, w64, ls]
  · have k2 : ¬ e = 2 := fun h => h23 (.inl h)
    have k3 : ¬ e = 3 := fun h => h23 (.inr h)
    have h1 := pCentE fx k2 k3
    have rs := range_is9
    refine call_by (A := A6) rfl rfl ?_
    simp (disch := first | assumption | omega | (simp only [List.length_cons, List.length_nil, List.length_set, List.length_append, List.length_replicate, List.length_map, List.length_range, List.length_take, List.length_drop, nums_length, bools_length, vecs_length]; first | done | omega)) [A6, first9, lx, hl, h1, k2, k3, rs]
end Zab.YtngoidkconngmaaDoorH
