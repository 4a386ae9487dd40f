/- Sponges: all at once; bytes that are the same. -/
import Derived.Test.YtngoidkconngmaaDoorHSpo
namespace Zab.YtngoidkconngmaaDoorH
open Go
open Go.IntWalk (i64_in)
set_option maxRecDepth 100000
set_option linter.unusedSimpArgs false
set_option linter.unusedVariables false
attribute [-simp] getElem?_pos
attribute [local simp ↓] W_loop W_seq W_skip W_ret W_exit W_reg W_cond W_block W_pre cleanO_some freezes_nil freezes_cons frzO_some andThen_normal andThen_ret andThen_exit unblock_normal unblock_ret unblock_exit Ends_normal Ends_ret steps_nil steps_cons step_some st_move st_pick st_bin st_un st_conv st_addr sv_ixA sv_ixS sv_fld sv_ixV st_ixStr st_ext sv_build sv_bsl sv_mkS st_mkfn sv_lenS sv_len st_mn st_mx st_nilChk st_cap st_mki st_boxE st_buildQ sv_boxQ sv_allocQ sv_appN st_tas st_slc sv_ldE sv_ldg sv_loadg sv_load st_call sv_store sv_box sv_alloc sv_mkR sv_bslR sv_nilR sv_app sv_callK stepsAt_some onSome_some onB_true onB_false onG_tt onG_tf onG_ft onG_ff onG_un optPut_some optMem_some
attribute [local simp] evalO evalL constAV get_cons get_nil put_cons put_nil look_cons look_nil putD_some clean_mk freeze_mk mapS del_cons del_nil keepS_cons keepS_nil keepL_cons keepL_nil memb_cons memb_nil unV pureV convV_i addrV toArgs anyRs hasSl2L finR resL resV one shiftV_shr shiftV_shl IntKind.bits fillV List.getElem?_cons_zero List.getElem?_cons_succ List.length_cons List.length_nil List.set_cons_zero List.set_cons_succ setR2 setR3 zrep_eqs binV_i binI_shl binI_shr binI_eqs binV_eqs binV_slcE binV_slcN lends_nil seesAny_no callK1_fn callK2_some callK3_some recvPut_some hasSlLL_nil hasSlLL_cons recv_os recv_op recv_no recvV_some recv_tp srcV_rs srcR_some List.append_nil intV_quo intV_rem hasSlL mapR_eqs kill1_eqs frz1_eqs isRs_eqs toArg_eqs from1_eqs from_eqs toRet_eqs countR_eqs hasSl1_eqs hasSl2_eqs hasSl_eqs cellsOf_ag1 cellsOf_ag2 cellsOf_ag3 cellsOf_ag4 cellsOf_ag5 partV_2 partV_3 partV_4 partV_5 ownR_of seenR_all seenR_part appS_rs appR_of srcV_sl srcV_z nilS_z bslS_some dec_t dec_f buildV_some bslV_some boxS_some root_mk ixSV_sl ixSV_rs ixAV_rf ixAV_el ixVV_ag fldV_ag lenV_sl lenV_rs lenV_z lenSV_s loadV_rf loadV_el ldEV_el loadR_some partV_none partV_all partV_some storeV_rf setR_one setR_all cellsOf_ag cellsOf_i cellsOf_b cellsOf_sl cellsOf_z cellsOf_er cellsOf_nl cellsOf_np cellsOf_s mkSV_of mkRS_of fl_map fl_kill fl_frz fl_toArg fl_isRs fl_toRet fl_from1 fl_from fl_cells fl_countR nums_length nums_get nums_set nums_append nums_snoc nums_drop nums_take nums_zrep nums_hasSl bools_length bools_get bools_set bools_snoc bools_zrep bools_hasSl vecs_length vecs_get vecs_snoc slcV_sl idxO idx Nat.zero_add Nat.mul_one Nat.add_zero nbeq_dec nble_dec nblt_dec special_nil special_cons mapQ_nil mapQ_cons frzR_some fillQ boxEV_some buildQV_some allPlain_nil allPlain_cons plain_eqs flat_eqs cellQ_eqs loadQ_some partQ_none partQ_some partF_t partF_f allFlat_nil allFlat_cons allQ_nil allQ_cons fldV_aq cellsQ_ag cellsQ_aq cellsQ_eqs cellsOf_ie enterS_nil enterS_cons enterL_nil enterL_cons partsN_nil partsN_cons partRows_nil partRows_cons scatL_nil scatL_cons rowsL_nil rowsL_cons keys_nil keys_cons rootsP_nil rootsP_cons rootsIn_nil rootsIn_cons childP_nil childP_cons childIn_nil childIn_cons okEnter_nil okEnter_cons nodupB_nil nodupB_cons allRoot_nil allRoot_cons noRoots_nil noRoots_cons apart_nil apart_cons allCh_nil allCh_cons kindsOk_nil kindsOk_cons rootB_eq chB_eq isRef_eq child_eq partId_eq okFin_eq slotOf_eqs partN_eqs lentRows_eqs argRows_eqs scat1_eqs rows1_eqs rootsR_eqs rootsA_eqs childR_eqs childA_eqs isRs0_eqs anyRs0_nil anyRs0_cons viewR_look agV_some consV_some consO_some viewL_nil viewL_rs viewL_fl frzP_nil frzP_os frzP_fl from1_op tpV_some fromRetL_nil fromRetL_cons gathL_nil gathC_some gathL_eq gathF_some gathS_some gath1_rf gath1_rs gath1_eqs ownR_ch ownR_cut retQ_some retA_some retN_some retF_some toRet_rf toRets_nil retC_some toRets_cons lentF_some lentG_some lentQ_some lentC_some lentR_op lentR_oq lentA_op lentA_oq lentParts_nil lentParts_cons lentOf_nil lentOf_cons lentR_eqs lentA_eqs countR_nil hasSlC_eqs hasSlCL_nil hasSlCL_cons sees0_nil seesAny_nil namesNot_nil sees0_eqs seesAny_eqs namesNot_eqs sees0_no lendG_some lendF_some lendP_rf lend1_rf lendV_some lendP_rs lend1_rs lendT_some lendPL_nil lendPL_cons lends_eq lendA_nil lendA_cons lendN_some lendP_eqs lend1_eqs putRows_nil putRows_cons kills_nil kills_cons putRS_mk takeRows_nil takeRows_cons rootAt_mk nilsC_some nilsOf_nil nilsOf_cons nilsX_z rootQ_eq rootR_some boxQS_some appR_cut appNS_of recvD_some recvD_none callK4_some backL_nil backC_some backL_cons afterB_some afterK_nil afterK_cons stays_cons staysB_some stays_nil nums_hasSlC bools_hasSlC recv_seven recvR_some recv_oq recv_aq recv_fn recv_ag recv_sl recv_z recv_np recv_nl recv_er recv_ie recv_fl recvT3_some recvT2_some recvT_some take1_os take1_op take1_oq take1_aq take1_fn take1_eqs notTp_eqs fl_slot fl_argRows fl_partN fl_lentRows fl_scat fl_rows1 fl_lentA fl_lentR fl_rootsA fl_rootsR fl_childA fl_childR fl_lendP fl_lend1 fl_isRs0 fl_gath fl_cellQ fl_cellsQ fl_take1 fl_sees0 fl_seesAny fl_namesNot fl_plain List.map_cons List.map_nil List.isEmpty_nil List.isEmpty_cons stepsAt_some onSome_some onB_true onB_false onG_tt onG_tf onG_ft onG_ff onG_un optPut_some optMem_some
attribute [local simp] sees_nil sees_rf sees_i sees_sl sees_z sees_rs sees_fl

theorem nj_ext {L M : List Int} (h1 : L.length = M.length) (h : ∀ j, j < L.length → ni L j = ni M j) : L = M := by
  apply List.ext_getElem h1
  intro j p q
  have := h j p
  rwa [ni_get p, ni_get q] at this
/-- Bytes that a machine's slice may have. -/
structure Bys (L : List Int) : Prop where
  byte : ∀ y ∈ L, inK .u8 y
  short : L.length < 9223372036854775807

theorem sNew {R : Nat} (h0 : 8 ≤ R) (h1 : R ≤ 192) (h8 : R % 8 = 0) {X : Int} (x0 : 1 ≤ X) (x1 : X ≤ 127) : FF tab 138 [.i .i64 R, .i .u8 X] = some ⟨.tp [.op (spC (zL 25) R X 0 false), .nl], []⟩ := by
  rw [← spC_new]
  refine call_by (A := A138) rfl rfl ?_
  have a1 : ¬ (R : Int) < 8 := by omega
  have a2 : ¬ (192 : Int) < R := by omega
  have a3 : (R : Int).tmod 8 = 0 := by rw [Int.tmod_eq_emod_of_nonneg (by omega)]; omega
  have a4 : ¬ X = 0 := by omega
  have a5 : ¬ 127 < X := by omega
  simp (disch := first | assumption | omega | (simp only [List.length_cons, List.length_nil, List.length_set, List.length_append, List.length_replicate, List.length_map, List.length_range, List.length_take, List.length_drop, nums_length, bools_length, vecs_length]; first | done | omega)) [A138, a1, a2, a3, a4, a5]

theorem sAbsorb {A : List Ln} (hA : A.length = 25) {R p : Nat} (hR : R ≤ 192) (hp : p < R) (X : Int) {x : AV} {L : List Int} (hx : IsL .u8 x L) (hB : Bys L) :
    FF tab 139 [.op (spC A R X p false), x] = some ⟨.nl, [spC (takeL R (A, p) L).1 R X (takeL R (A, p) L).2 false]⟩ := by
  refine call_by (A := A139) rfl rfl ?_
  have fx := hx.flat
  have h28 := spC_28 (r := R) (x := X) (p := (p : Int)) (s := false) hA
  have ll := spC_len (r := R) (x := X) (p := (p : Int)) (s := false) hA
  have hT := sTake hA hR hp X false hx hB.byte hB.short
  generalize takeL R (A, p) L = S at *
  have lo := lent_one (spC S.1 R X S.2 false) (spC A R X p false) fx
  simp (disch := first | assumption | omega | (simp only [List.length_cons, List.length_nil, List.length_set, List.length_append, List.length_replicate, List.length_map, List.length_range, List.length_take, List.length_drop, nums_length, bools_length, vecs_length]; first | done | omega)) [A139, h28, hT, lo]
theorem sAbsorbT {A : List Ln} (hA : A.length = 25) (R p : Nat) (X : Int) {x : AV} (fx : x.flat = true) :
    FF tab 139 [.op (spC A R X p true), x] = some ⟨.er 3, [spC A R X p true]⟩ := by
  refine call_by (A := A139) rfl rfl ?_
  have h28 := spC_28 (r := R) (x := X) (p := (p : Int)) (s := true) hA
  have ll := spC_len (r := R) (x := X) (p := (p : Int)) (s := true) hA
  have lo := lent_one (spC A R X p true) (spC A R X p true) fx
  simp (disch := first | assumption | omega | (simp only [List.length_cons, List.length_nil, List.length_set, List.length_append, List.length_replicate, List.length_map, List.length_range, List.length_take, List.length_drop, nums_length, bools_length, vecs_length]; first | done | omega)) [A139, h28, lo]

end Zab.YtngoidkconngmaaDoorH
