/- The statements of chapter 2: products. -/
import Derived.Test.YtcebddjidpbhgaaDoorConv
import Derived.Test.YtcebddjidpbhgaaDoorSee
import Derived.Test.YtcebddjidpbhgaaDoorZabData
import Derived.KernelRfl
namespace Zab.YtcebddjidpbhgaaDoor
open Go
open Go.IntWalk (i64_in)
set_option maxRecDepth 100000
set_option linter.unusedSimpArgs false
set_option linter.unusedVariables false
attribute [-simp] getElem?_pos
attribute [local simp ↓] W_loop W_seq W_skip W_ret W_exit W_reg W_cond W_block W_pre cleanO_some freezes_nil freezes_cons frzO_some andThen_normal andThen_ret andThen_exit unblock_normal unblock_ret unblock_exit Ends_normal Ends_ret steps_nil steps_cons step_some st_move st_pick st_bin st_un st_conv st_addr sv_ixA sv_ixS sv_fld sv_ixV st_ixStr st_ext sv_build sv_bsl sv_mkS st_mkfn sv_lenS sv_len st_mn st_mx st_nilChk st_tas st_slc sv_loadg sv_load st_call sv_store sv_box sv_alloc sv_mkR sv_bslR sv_nilR sv_app sv_callK stepsAt_some onSome_some onB_true onB_false onG_tt onG_tf onG_ft onG_ff onG_un optPut_some optMem_some
attribute [local simp] evalO evalL constAV get_cons get_nil put_cons put_nil look_cons look_nil putD_some clean_mk freeze_mk mapS del_cons del_nil keepS_cons keepS_nil keepL_cons keepL_nil memb_cons memb_nil unV pureV convV_i addrV toArgs anyRs hasSl2L fromRetL finR resL resV toRets one Nat.beq Nat.ble shiftV_shr shiftV_shl IntKind.bits fillV List.getElem?_cons_zero List.getElem?_cons_succ List.length_cons List.length_nil List.set_cons_zero List.set_cons_succ setR2 setR3 zrep_eqs binV_i binI_shl binI_shr binI_eqs binV_eqs binV_slcE binV_slcN lendsC_some lends_nil lends_eqs fl_lends lends_rf lendsR_some lends_rs lendsS_some seesAny_no callK1_fn callK2_some callK3_some recvPut_some afterK_some afterK_none putAll_nil putAll_cons hasSlLL_nil hasSlLL_cons recv_os recv_op recv_no recvV_some recv_tp recvT_os recvT_op List.append_nil intV_quo intV_rem hasSlL mapR_eqs kill1_eqs frz1_eqs enterS_eqs enterL_eqs isRs_eqs toArg_eqs from1_eqs from_eqs toRet_eqs lentOf_eqs countR_eqs hasSl1_eqs hasSl2_eqs hasSl_eqs cellsOf_ag1 cellsOf_ag2 cellsOf_ag3 cellsOf_ag4 cellsOf_ag5 partV_2 partV_3 partV_4 partV_5 toRet_own ownR_of toArg_rs seenR_all seenR_part appS_rs appR_of srcV_sl srcV_z nilS_z bslS_some dec_t dec_f buildV_some bslV_some boxS_some root_mk ixSV_sl ixSV_rs ixAV_rf ixAV_el ixVV_ag fldV_ag lenV_sl lenV_rs lenV_z lenSV_s loadV_rf loadV_el loadR_some partV_none partV_all partV_some storeV_rf setR_one setR_all cellsOf_ag cellsOf_i cellsOf_b cellsOf_sl cellsOf_z cellsOf_er cellsOf_nl cellsOf_np cellsOf_s mkSV_of mkRS_of fl_map fl_kill fl_frz fl_enterS fl_enterL fl_lentOf fl_toArg fl_isRs fl_toRet fl_from1 fl_from fl_cells fl_countR nums_length nums_get nums_set nums_append nums_snoc nums_drop nums_take nums_zrep nums_hasSl bools_length bools_get bools_set bools_snoc bools_zrep bools_hasSl vecs_length vecs_get vecs_snoc slcV_sl idxO idx Nat.zero_add Nat.mul_one Nat.add_zero stepsAt_some onSome_some onB_true onB_false onG_tt onG_tf onG_ft onG_ff onG_un optPut_some optMem_some

theorem first2 : FF tab 29 [] = some ⟨.b true, []⟩ := FF_of (n := 60) (by kernel_rfl)
theorem Light (q n : Int) {x y : AV} {L M : List Int} (hx : IsL .i64 x L) (hy : IsL .i64 y M) : FF tab 30 [(.ag [.i .i64 (q), .i .i64 (n)]), x, y] = some ⟨.b (decide (n ≤ 64 ∧ (L.length : Int) ≤ 70 ∧ (M.length : Int) ≤ 70)), []⟩ := by
  refine call_by (A := A30) rfl rfl ?_
  have fx := hx.flat
  have fy := hy.flat
  have lx := lenV_isL hx
  have ly := lenV_isL hy
  by_cases h1 : n ≤ 64
  · by_cases h2 : (L.length : Int) ≤ 70
    · by_cases h3 : (M.length : Int) ≤ 70
      · simp (disch := first | assumption | omega | (simp only [List.length_cons, List.length_nil, List.length_set, List.length_append, List.length_replicate, List.length_map, List.length_range, List.length_take, List.length_drop, nums_length, bools_length, vecs_length]; first | done | omega)) [A30, lx, ly, h1, h2, h3]
      · simp (disch := first | assumption | omega | (simp only [List.length_cons, List.length_nil, List.length_set, List.length_append, List.length_replicate, List.length_map, List.length_range, List.length_take, List.length_drop, nums_length, bools_length, vecs_length]; first | done | omega)) [A30, lx, ly, h1, h2, h3]
    · simp (disch := first | assumption | omega | (simp only [List.length_cons, List.length_nil, List.length_set, List.length_append, List.length_replicate, List.length_map, List.length_range, List.length_take, List.length_drop, nums_length, bools_length, vecs_length]; first | done | omega)) [A30, lx, ly, h1, h2]
  · simp (disch := first | assumption | omega | (simp only [List.length_cons, List.length_nil, List.length_set, List.length_append, List.length_replicate, List.length_map, List.length_range, List.length_take, List.length_drop, nums_length, bools_length, vecs_length]; first | done | omega)) [A30, lx, ly, h1]

theorem ConvSays (q n : Int) (x : AV) (L : List Int) (hxN : IsNums .i64 x L) (y : AV) (M : List Int) (hyN : IsNums .i64 y M) : FF tab 5 [(.ag [.i .i64 (q), .i .i64 (n)]), x, y] = some ⟨.b true, []⟩ := by
  refine call_by (A := A5) rfl rfl ?_
  have hx := hxN.isL
  have hy := hyN.isL
  have fx := hx.flat
  have fy := hy.flat
  have h1 := first2
  have hl := Light q n hx hy
  by_cases hb : n ≤ 64 ∧ (L.length : Int) ≤ 70 ∧ (M.length : Int) ≤ 70
  · have sL : L.length < 9223372036854775807 := by omega
    have sM : M.length < 9223372036854775807 := by omega
    have hV := fVectors q n (.two hx hy) (by intro K hK; simp only [List.mem_cons, List.not_mem_nil, or_false] at hK; rcases hK with rfl | rfl <;> omega) (by simp) (by simp)
    rw [show [x, y].length = 2 from rfl] at hV
    have hC := rConv_bad q n hx hy sL sM
    have hc := vecsBad_code q n [L, M]
    have fc := errV_flat (vecsBad q n [L, M])
    have hi := SeeIs hc (vecsBad q n [L, M])
    have i0 : FF tab 25 [.nl, .i .i64 0] = some ⟨.b true, []⟩ := SeeIs (c := 0) (.inl rfl) 0
    by_cases h0 : vecsBad q n [L, M] = 0
    · obtain ⟨hL, hM⟩ := vecsBad_two.1 h0
      have hR := rConv q n hx hy hL hM
      have hF := fConv q n hx hy hL hM
      have hcl := convL_len q L M
      have hS := SameInts (.mk .i64 (convL q L M)) (.mk .i64 (convL q L M)) (by omega)
      simp only [slv, hcl, decide_true] at hS
      rw [h0] at hV
      generalize convL q L M = C at *
      simp (disch := first | assumption | omega | (simp only [List.length_cons, List.length_nil, List.length_set, List.length_append, List.length_replicate, List.length_map, List.length_range, List.length_take, List.length_drop, nums_length, bools_length, vecs_length]; first | done | omega)) [A5, h1, hl, hb, hV, hR, hF, hS, i0]
    · have hC := hC h0
      have h0' : ¬ (vecsBad q n [L, M] : Int) = 0 := by omega
      generalize vecsBad q n [L, M] = c at *
      simp (disch := first | assumption | omega | (simp only [List.length_cons, List.length_nil, List.length_set, List.length_append, List.length_replicate, List.length_map, List.length_range, List.length_take, List.length_drop, nums_length, bools_length, vecs_length]; first | done | omega)) [A5, h1, hl, hb, hV, hC, hi, h0']
  · simp (disch := first | assumption | omega | (simp only [List.length_cons, List.length_nil, List.length_set, List.length_append, List.length_replicate, List.length_map, List.length_range, List.length_take, List.length_drop, nums_length, bools_length, vecs_length]; first | done | omega)) [A5, h1, hl, hb]
end Zab.YtcebddjidpbhgaaDoor
