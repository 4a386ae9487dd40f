/- The sets of chapter 11, and their sizes. -/
import Derived.Test.YtohilcdmockfbaaDoorZabFor
import Derived.Test.YtohilcdmockfbaaDoorCAbs
import Derived.KernelRfl
namespace Zab.YtohilcdmockfbaaDoorC
open Go
open Go.IntWalk (i64_in)
set_option maxRecDepth 100000
set_option linter.unusedSimpArgs false
set_option linter.unusedVariables false
attribute [-simp] getElem?_pos
attribute [local simp ↓] W_loop W_seq W_skip W_ret W_exit W_reg W_cond W_block W_pre cleanO_some freezes_nil freezes_cons frzO_some andThen_normal andThen_ret andThen_exit unblock_normal unblock_ret unblock_exit Ends_normal Ends_ret steps_nil steps_cons step_some st_move st_pick st_bin st_un st_conv st_addr sv_ixA sv_ixS sv_fld sv_ixV st_ixStr st_ext sv_build sv_bsl sv_mkS st_mkfn sv_lenS sv_len st_mn st_mx st_nilChk st_tas st_slc sv_ldg sv_loadg sv_load st_call sv_store sv_box sv_alloc sv_mkR sv_bslR sv_nilR sv_app sv_callK stepsAt_some onSome_some onB_true onB_false onG_tt onG_tf onG_ft onG_ff onG_un optPut_some optMem_some
attribute [local simp] evalO evalL constAV get_cons get_nil put_cons put_nil look_cons look_nil putD_some clean_mk freeze_mk mapS del_cons del_nil keepS_cons keepS_nil keepL_cons keepL_nil memb_cons memb_nil unV pureV convV_i addrV toArgs anyRs hasSl2L fromRetL finR resL resV toRets one Nat.beq Nat.ble shiftV_shr shiftV_shl IntKind.bits fillV List.getElem?_cons_zero List.getElem?_cons_succ List.length_cons List.length_nil List.set_cons_zero List.set_cons_succ setR2 setR3 zrep_eqs binV_i binI_shl binI_shr binI_eqs binV_eqs binV_slcE binV_slcN lendsC_some lends_nil lends_eqs fl_lends lends_rf lendsR_some lends_rs lendsS_some seesAny_no callK1_fn callK2_some callK3_some recvPut_some afterK_some afterK_none putAll_nil putAll_cons hasSlLL_nil hasSlLL_cons recv_os recv_op recv_no recvV_some recv_tp recvT_os recvT_op srcV_rs srcR_some List.append_nil intV_quo intV_rem hasSlL mapR_eqs kill1_eqs frz1_eqs enterS_eqs enterL_eqs isRs_eqs toArg_eqs from1_eqs from_eqs toRet_eqs lentOf_eqs countR_eqs hasSl1_eqs hasSl2_eqs hasSl_eqs cellsOf_ag1 cellsOf_ag2 cellsOf_ag3 cellsOf_ag4 cellsOf_ag5 partV_2 partV_3 partV_4 partV_5 toRet_own ownR_of toArg_rs seenR_all seenR_part appS_rs appR_of srcV_sl srcV_z nilS_z bslS_some dec_t dec_f buildV_some bslV_some boxS_some root_mk ixSV_sl ixSV_rs ixAV_rf ixAV_el ixVV_ag fldV_ag lenV_sl lenV_rs lenV_z lenSV_s loadV_rf loadV_el loadR_some partV_none partV_all partV_some storeV_rf setR_one setR_all cellsOf_ag cellsOf_i cellsOf_b cellsOf_sl cellsOf_z cellsOf_er cellsOf_nl cellsOf_np cellsOf_s mkSV_of mkRS_of fl_map fl_kill fl_frz fl_enterS fl_enterL fl_lentOf fl_toArg fl_isRs fl_toRet fl_from1 fl_from fl_cells fl_countR nums_length nums_get nums_set nums_append nums_snoc nums_drop nums_take nums_zrep nums_hasSl bools_length bools_get bools_set bools_snoc bools_zrep bools_hasSl vecs_length vecs_get vecs_snoc slcV_sl idxO idx Nat.zero_add Nat.mul_one Nat.add_zero stepsAt_some onSome_some onB_true onB_false onG_tt onG_tf onG_ft onG_ff onG_un optPut_some optMem_some

def seven (a b c d e f g h i : Int) : List AV := [.i .i64 a, .i .i64 b, .i .i64 c, .i .i64 d, .i .i64 e, .i .i64 f, .i .i64 g, .i .i64 h, .i .i64 i]
def s0 : List AV := seven 4 4 2 39 78 131072 95232 80 128
def s1 : List AV := seven 6 5 4 49 196 524288 261888 55 192
def s2 : List AV := seven 8 7 2 60 120 524288 261888 75 256
def sS : List AV := s0 ++ (s1 ++ s2)
theorem first11 : FF tab 8 [] = some ⟨.b true, []⟩ := FF_of (n := 60) (by kernel_rfl)
theorem Sets : FF tab 9 [] = some ⟨.sl sS 3, []⟩ := FF_of (n := 60) (by kernel_rfl)
theorem DsaSets : FF tab 10 [] = some ⟨.sl sS 3, []⟩ := FF_of (n := 60) (by kernel_rfl)
theorem Sizes0 : FF tab 11 [.i .i64 0] = some ⟨.tp [.i .i64 1312, .i .i64 2560, .i .i64 2420], []⟩ := FF_of (n := 60) (by kernel_rfl)
theorem Sizes1 : FF tab 11 [.i .i64 1] = some ⟨.tp [.i .i64 1952, .i .i64 4032, .i .i64 3309], []⟩ := FF_of (n := 60) (by kernel_rfl)
theorem Sizes2 : FF tab 11 [.i .i64 2] = some ⟨.tp [.i .i64 2592, .i .i64 4896, .i .i64 4627], []⟩ := FF_of (n := 60) (by kernel_rfl)
theorem fSizes0 : FF tab 12 [.i .i64 0] = some ⟨.tp [.i .i64 1312, .i .i64 2560, .i .i64 2420], []⟩ := FF_of (n := 60) (by kernel_rfl)
theorem fSizes1 : FF tab 12 [.i .i64 1] = some ⟨.tp [.i .i64 1952, .i .i64 4032, .i .i64 3309], []⟩ := FF_of (n := 60) (by kernel_rfl)
theorem fSizes2 : FF tab 12 [.i .i64 2] = some ⟨.tp [.i .i64 2592, .i .i64 4896, .i .i64 4627], []⟩ := FF_of (n := 60) (by kernel_rfl)
theorem wOf (s : Int) (h : s < 0 ∨ 3 ≤ s) : FF tab 34 [.i .i64 s] = some ⟨.tp [.ag (seven 0 0 0 0 0 0 0 0 0), .er 0], []⟩ := by
  refine call_by (A := A34) rfl rfl ?_
  by_cases h0 : s < 0
  · simp (disch := first | assumption | omega | (simp only [List.length_cons, List.length_nil, List.length_set, List.length_append, List.length_replicate, List.length_map, List.length_range, List.length_take, List.length_drop, nums_length, bools_length, vecs_length]; first | done | omega)) [A34, Sets, h0, seven]
  · have h3 : 3 ≤ s := by omega
    simp (disch := first | assumption | omega | (simp only [List.length_cons, List.length_nil, List.length_set, List.length_append, List.length_replicate, List.length_map, List.length_range, List.length_take, List.length_drop, nums_length, bools_length, vecs_length]; first | done | omega)) [A34, Sets, h0, h3, seven]
theorem SizesN (s : Int) (h : s < 0 ∨ 3 ≤ s) : FF tab 11 [.i .i64 s] = some ⟨.tp [.i .i64 0, .i .i64 0, .i .i64 0], []⟩ := by
  refine call_by (A := A11) rfl rfl ?_
  have ho := wOf s h
  simp (disch := first | assumption | omega | (simp only [List.length_cons, List.length_nil, List.length_set, List.length_append, List.length_replicate, List.length_map, List.length_range, List.length_take, List.length_drop, nums_length, bools_length, vecs_length]; first | done | omega)) [A11, ho, seven]
theorem fSizesN (s : Int) (h : s < 0 ∨ 3 ≤ s) : FF tab 12 [.i .i64 s] = some ⟨.tp [.i .i64 0, .i .i64 0, .i .i64 0], []⟩ := by
  refine call_by (A := A12) rfl rfl ?_
  by_cases h0 : s < 0
  · simp (disch := first | assumption | omega | (simp only [List.length_cons, List.length_nil, List.length_set, List.length_append, List.length_replicate, List.length_map, List.length_range, List.length_take, List.length_drop, nums_length, bools_length, vecs_length]; first | done | omega)) [A12, h0]
  · have h3 : 2 < s := by omega
    simp (disch := first | assumption | omega | (simp only [List.length_cons, List.length_nil, List.length_set, List.length_append, List.length_replicate, List.length_map, List.length_range, List.length_take, List.length_drop, nums_length, bools_length, vecs_length]; first | done | omega)) [A12, h0, h3]
theorem sizes (s : Int) : ∃ a b c : Int, FF tab 11 [.i .i64 s] = some ⟨.tp [.i .i64 a, .i .i64 b, .i .i64 c], []⟩ ∧ FF tab 12 [.i .i64 s] = some ⟨.tp [.i .i64 a, .i .i64 b, .i .i64 c], []⟩ := by
  by_cases h : s < 0 ∨ 3 ≤ s
  · exact ⟨_, _, _, SizesN s h, fSizesN s h⟩
  · have : s = 0 ∨ s = 1 ∨ s = 2 := by omega
    rcases this with rfl | rfl | rfl
    · exact ⟨_, _, _, Sizes0, fSizes0⟩
    · exact ⟨_, _, _, Sizes1, fSizes1⟩
    · exact ⟨_, _, _, Sizes2, fSizes2⟩
set_option maxHeartbeats 4000000 in
theorem WireSets (s : Int) : FF tab 3 [.i .i64 s] = some ⟨.b true, []⟩ := by
  refine call_by (A := A3) rfl rfl ?_
  obtain ⟨a, b, c, h1, h2⟩ := sizes s
  have p0 : partV sS 0 (some 9) = some (.ag s0) := rfl
  have p1 : partV sS 9 (some 9) = some (.ag s1) := rfl
  have p2 : partV sS 18 (some 9) = some (.ag s2) := rfl
  have l0 : s0.length = 9 := rfl
  have l1 : s1.length = 9 := rfl
  have l2 : s2.length = 9 := rfl
  have lS : sS.length = 27 := rfl
  have lZ : ([.i .i64 0, .i .i64 0, .i .i64 0, .i .i64 0, .i .i64 0, .i .i64 0, .i .i64 0, .i .i64 0, .i .i64 0] : List AV).length = 9 := rfl
  simp (disch := first | assumption | omega | (simp only [List.length_cons, List.length_nil, List.length_set, List.length_append, List.length_replicate, List.length_map, List.length_range, List.length_take, List.length_drop, nums_length, bools_length, vecs_length]; first | done | omega)) [A3, first11, Sets, DsaSets]
  refine w_heads 3 (fun i => ⟨[(6, .i .i64 i), (5, .sl sS 3), (4, .sl sS 3), (3, .b true), (0, .i .i64 s)], []⟩) (by simp (disch := first | assumption | omega | (simp only [List.length_cons, List.length_nil, List.length_set, List.length_append, List.length_replicate, List.length_map, List.length_range, List.length_take, List.length_drop, nums_length, bools_length, vecs_length]; first | done | omega)) []) ?_ ?_
  · intro i hi
    have : i = 0 ∨ i = 1 ∨ i = 2 := by omega
    have w1 : IntKind.i64.wrap 1 = 1 := rfl
    have w2 : IntKind.i64.wrap 2 = 2 := rfl
    have w3 : IntKind.i64.wrap 3 = 3 := rfl
    rcases this with rfl | rfl | rfl
    · simp (disch := first | assumption | omega | (simp only [List.length_cons, List.length_nil, List.length_set, List.length_append, List.length_replicate, List.length_map, List.length_range, List.length_take, List.length_drop, nums_length, bools_length, vecs_length]; first | done | omega)) [p0, w1]
      simp (disch := first | assumption | omega | (simp only [List.length_cons, List.length_nil, List.length_set, List.length_append, List.length_replicate, List.length_map, List.length_range, List.length_take, List.length_drop, nums_length, bools_length, vecs_length]; first | done | omega)) [s0, seven, w1]
    · simp (disch := first | assumption | omega | (simp only [List.length_cons, List.length_nil, List.length_set, List.length_append, List.length_replicate, List.length_map, List.length_range, List.length_take, List.length_drop, nums_length, bools_length, vecs_length]; first | done | omega)) [p1, w2]
      simp (disch := first | assumption | omega | (simp only [List.length_cons, List.length_nil, List.length_set, List.length_append, List.length_replicate, List.length_map, List.length_range, List.length_take, List.length_drop, nums_length, bools_length, vecs_length]; first | done | omega)) [s1, seven, w2]
    · simp (disch := first | assumption | omega | (simp only [List.length_cons, List.length_nil, List.length_set, List.length_append, List.length_replicate, List.length_map, List.length_range, List.length_take, List.length_drop, nums_length, bools_length, vecs_length]; first | done | omega)) [p2, w3]
      simp (disch := first | assumption | omega | (simp only [List.length_cons, List.length_nil, List.length_set, List.length_append, List.length_replicate, List.length_map, List.length_range, List.length_take, List.length_drop, nums_length, bools_length, vecs_length]; first | done | omega)) [s2, seven, w3]
  · simp (disch := first | assumption | omega | (simp only [List.length_cons, List.length_nil, List.length_set, List.length_append, List.length_replicate, List.length_map, List.length_range, List.length_take, List.length_drop, nums_length, bools_length, vecs_length]; first | done | omega)) [h1, h2]
end Zab.YtohilcdmockfbaaDoorC
