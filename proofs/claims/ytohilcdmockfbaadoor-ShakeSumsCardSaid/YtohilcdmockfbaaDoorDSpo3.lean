/- The statements of chapter 5: edges. -/
import Derived.Test.YtohilcdmockfbaaDoorDSpo2
import Derived.Test.YtohilcdmockfbaaDoorDNum
import Derived.KernelRfl
namespace Zab.YtohilcdmockfbaaDoorD
open Go
open Go.IntWalk (i64_in)
set_option maxRecDepth 100000
set_option linter.unusedSimpArgs false
set_option linter.unusedVariables false
attribute [-simp] getElem?_pos
attribute [local simp ↓] W_loop W_seq W_skip W_ret W_exit W_reg W_cond W_block W_pre cleanO_some freezes_nil freezes_cons frzO_some andThen_normal andThen_ret andThen_exit unblock_normal unblock_ret unblock_exit Ends_normal Ends_ret steps_nil steps_cons step_some st_move st_pick st_bin st_un st_conv st_addr sv_ixA sv_ixS sv_fld sv_ixV st_ixStr st_ext sv_build sv_bsl sv_mkS st_mkfn sv_lenS sv_len st_mn st_mx st_nilChk st_tas st_slc sv_ldg sv_loadg sv_load st_call sv_store sv_box sv_alloc sv_mkR sv_bslR sv_nilR sv_app sv_callK stepsAt_some onSome_some onB_true onB_false onG_tt onG_tf onG_ft onG_ff onG_un optPut_some optMem_some
attribute [local simp] evalO evalL constAV get_cons get_nil put_cons put_nil look_cons look_nil putD_some clean_mk freeze_mk mapS del_cons del_nil keepS_cons keepS_nil keepL_cons keepL_nil memb_cons memb_nil unV pureV convV_i addrV toArgs anyRs hasSl2L fromRetL finR resL resV toRets one Nat.beq Nat.ble shiftV_shr shiftV_shl IntKind.bits fillV List.getElem?_cons_zero List.getElem?_cons_succ List.length_cons List.length_nil List.set_cons_zero List.set_cons_succ setR2 setR3 zrep_eqs binV_i binI_shl binI_shr binI_eqs binV_eqs binV_slcE binV_slcN lendsC_some lends_nil lends_eqs fl_lends lends_rf lendsR_some lends_rs lendsS_some seesAny_no callK1_fn callK2_some callK3_some recvPut_some afterK_some afterK_none putAll_nil putAll_cons hasSlLL_nil hasSlLL_cons recv_os recv_op recv_no recvV_some recv_tp recvT_os recvT_op srcV_rs srcR_some List.append_nil intV_quo intV_rem hasSlL mapR_eqs kill1_eqs frz1_eqs enterS_eqs enterL_eqs isRs_eqs toArg_eqs from1_eqs from_eqs toRet_eqs lentOf_eqs countR_eqs hasSl1_eqs hasSl2_eqs hasSl_eqs cellsOf_ag1 cellsOf_ag2 cellsOf_ag3 cellsOf_ag4 cellsOf_ag5 partV_2 partV_3 partV_4 partV_5 toRet_own ownR_of toArg_rs seenR_all seenR_part appS_rs appR_of srcV_sl srcV_z nilS_z bslS_some dec_t dec_f buildV_some bslV_some boxS_some root_mk ixSV_sl ixSV_rs ixAV_rf ixAV_el ixVV_ag fldV_ag lenV_sl lenV_rs lenV_z lenSV_s loadV_rf loadV_el loadR_some partV_none partV_all partV_some storeV_rf setR_one setR_all cellsOf_ag cellsOf_i cellsOf_b cellsOf_sl cellsOf_z cellsOf_er cellsOf_nl cellsOf_np cellsOf_s mkSV_of mkRS_of fl_map fl_kill fl_frz fl_enterS fl_enterL fl_lentOf fl_toArg fl_isRs fl_toRet fl_from1 fl_from fl_cells fl_countR nums_length nums_get nums_set nums_append nums_snoc nums_drop nums_take nums_zrep nums_hasSl bools_length bools_get bools_set bools_snoc bools_zrep bools_hasSl vecs_length vecs_get vecs_snoc slcV_sl idxO idx Nat.zero_add Nat.mul_one Nat.add_zero stepsAt_some onSome_some onB_true onB_false onG_tt onG_tf onG_ft onG_ff onG_un optPut_some optMem_some
attribute [local simp] sees_nil sees_rf sees_i sees_sl sees_z sees_rs sees_fl

/-- The first bytes of nothing's sum. -/
theorem nothing3 : (outL 136 (padS 136 6 (zL 25, 0)) 3) = [167, 255, 198] := by kernel_rfl
theorem nothing_at : ni (outL 136 (padS 136 6 (zL 25, 0)) 32) 0 = 167 ∧ ni (outL 136 (padS 136 6 (zL 25, 0)) 32) 1 = 255 ∧ ni (outL 136 (padS 136 6 (zL 25, 0)) 32) 2 = 198 := by
  have e : ∀ j, j < 3 → ni (outL 136 (padS 136 6 (zL 25, 0)) 32) j = ni (outL 136 (padS 136 6 (zL 25, 0)) 3) j := fun j hj => by
    unfold outL
    rw [ni_map (by omega), ni_map hj]
  rw [e 0 (by omega), e 1 (by omega), e 2 (by omega), nothing3]
  exact ⟨rfl, rfl, rfl⟩
theorem first5 : FF tab 13 [] = some ⟨.b true, []⟩ := by
  refine call_by (A := A13) rfl rfl ?_
  have h := sSum256 (x := .z) (L := []) (.none .u8) ⟨(by intro y hy; cases hy), by simp⟩
  rw [takeL_nil] at h
  obtain ⟨e0, e1, e2⟩ := nothing_at
  have hl := outL_len 136 (padS 136 6 (zL 25, 0)) 32
  have g0 := nums_get (k := .u8) (L := outL 136 (padS 136 6 (zL 25, 0)) 32) (j := 0) (by omega)
  have g1 := nums_get (k := .u8) (L := outL 136 (padS 136 6 (zL 25, 0)) 32) (j := 1) (by omega)
  have g2 := nums_get (k := .u8) (L := outL 136 (padS 136 6 (zL 25, 0)) 32) (j := 2) (by omega)
  have hn := nums_length .u8 (outL 136 (padS 136 6 (zL 25, 0)) 32)
  rw [hl] at hn
  rw [e0] at g0
  rw [e1] at g1
  rw [e2] at g2
  generalize nums .u8 (outL 136 (padS 136 6 (zL 25, 0)) 32) = O at *
  simp (disch := first | assumption | omega | (simp only [List.length_cons, List.length_nil, List.length_set, List.length_append, List.length_replicate, List.length_map, List.length_range, List.length_take, List.length_drop, nums_length, bools_length, vecs_length]; first | done | omega)) [A13, h, g0, g1, g2]

theorem ptr_rf (d o : Nat) : binV .ptr .eql (.rf d o) .np = some (.b false) := rfl
theorem outL_take (R : Nat) (S : List Ln × Nat) {n m : Nat} (h : n ≤ m) : (outL R S m).take n = outL R S n := by
  have e : m = n + (m - n) := by omega
  rw [e, outL_add, List.take_append_of_le_length (by rw [outL_len]; omega), List.take_of_length_le (by rw [outL_len]; omega)]

end Zab.YtohilcdmockfbaaDoorD
