/- The statements of chapter 3: transforms against the document's. -/
import Derived.Test.YtcebddjidpbhgaaDoorNttG
import Derived.Test.YtcebddjidpbhgaaDoorNttL
import Derived.Test.YtcebddjidpbhgaaDoorSee
import Derived.Test.YtcebddjidpbhgaaDoorRef2
import Derived.Test.YtcebddjidpbhgaaDoorZabData
namespace Zab.YtcebddjidpbhgaaDoor
open Go
open Go.IntWalk (i64_in)
set_option maxRecDepth 100000
set_option linter.unusedSimpArgs false
set_option linter.unusedVariables false
attribute [-simp] getElem?_pos
attribute [local simp ↓] W_loop W_seq W_skip W_ret W_exit W_reg W_cond W_block W_pre cleanO_some freezes_nil freezes_cons frzO_some andThen_normal andThen_ret andThen_exit unblock_normal unblock_ret unblock_exit Ends_normal Ends_ret steps_nil steps_cons step_some st_move st_pick st_bin st_un st_conv st_addr sv_ixA sv_ixS sv_fld sv_ixV st_ixStr st_ext sv_build sv_bsl sv_mkS st_mkfn sv_lenS sv_len st_mn st_mx st_nilChk st_tas st_slc sv_loadg sv_load st_call sv_store sv_box sv_alloc sv_mkR sv_bslR sv_nilR sv_app sv_callK stepsAt_some onSome_some onB_true onB_false onG_tt onG_tf onG_ft onG_ff onG_un optPut_some optMem_some
attribute [local simp] evalO evalL constAV get_cons get_nil put_cons put_nil look_cons look_nil putD_some clean_mk freeze_mk mapS del_cons del_nil keepS_cons keepS_nil keepL_cons keepL_nil memb_cons memb_nil unV pureV convV_i addrV toArgs anyRs hasSl2L fromRetL finR resL resV toRets one Nat.beq Nat.ble shiftV_shr shiftV_shl IntKind.bits fillV List.getElem?_cons_zero List.getElem?_cons_succ List.length_cons List.length_nil List.set_cons_zero List.set_cons_succ setR2 setR3 zrep_eqs binV_i binI_shl binI_shr binI_eqs binV_eqs binV_slcE binV_slcN lendsC_some lends_nil lends_eqs fl_lends lends_rf lendsR_some lends_rs lendsS_some seesAny_no callK1_fn callK2_some callK3_some recvPut_some afterK_some afterK_none putAll_nil putAll_cons hasSlLL_nil hasSlLL_cons recv_os recv_op recv_no recvV_some recv_tp recvT_os recvT_op srcV_rs srcR_some List.append_nil intV_quo intV_rem hasSlL mapR_eqs kill1_eqs frz1_eqs enterS_eqs enterL_eqs isRs_eqs toArg_eqs from1_eqs from_eqs toRet_eqs lentOf_eqs countR_eqs hasSl1_eqs hasSl2_eqs hasSl_eqs cellsOf_ag1 cellsOf_ag2 cellsOf_ag3 cellsOf_ag4 cellsOf_ag5 partV_2 partV_3 partV_4 partV_5 toRet_own ownR_of toArg_rs seenR_all seenR_part appS_rs appR_of srcV_sl srcV_z nilS_z bslS_some dec_t dec_f buildV_some bslV_some boxS_some root_mk ixSV_sl ixSV_rs ixAV_rf ixAV_el ixVV_ag fldV_ag lenV_sl lenV_rs lenV_z lenSV_s loadV_rf loadV_el loadR_some partV_none partV_all partV_some storeV_rf setR_one setR_all cellsOf_ag cellsOf_i cellsOf_b cellsOf_sl cellsOf_z cellsOf_er cellsOf_nl cellsOf_np cellsOf_s mkSV_of mkRS_of fl_map fl_kill fl_frz fl_enterS fl_enterL fl_lentOf fl_toArg fl_isRs fl_toRet fl_from1 fl_from fl_cells fl_countR nums_length nums_get nums_set nums_append nums_snoc nums_drop nums_take nums_zrep nums_hasSl bools_length bools_get bools_set bools_snoc bools_zrep bools_hasSl vecs_length vecs_get vecs_snoc slcV_sl idxO idx Nat.zero_add Nat.mul_one Nat.add_zero stepsAt_some onSome_some onB_true onB_false onG_tt onG_tf onG_ft onG_ff onG_un optPut_some optMem_some

theorem first3 : FF tab 35 [] = some ⟨.b true, []⟩ := FF_of (n := 60) (by kernel_rfl)
theorem nTo_bad (q n : Int) {x : AV} {L : List Int} (hx : IsL .i64 x L) (hsL : L.length < 9223372036854775807) (hb : vecBad q n L ≠ 0) : FF tab 56 [(.ag [.i .i64 (q), .i .i64 (n)]), x] = some ⟨.tp [.z, errV (vecBad q n L)], []⟩ := by
  refine call_by (A := A56) rfl rfl ?_
  have fx := hx.flat
  have h1 := rVector q n hx hsL
  have c1 := vecBad_code q n L
  have e1 := errV_ne c1
  have f1 := errV_flat (vecBad q n L)
  generalize vecBad q n L = c at *
  simp (disch := first | assumption | omega | (simp only [List.length_cons, List.length_nil, List.length_set, List.length_append, List.length_replicate, List.length_map, List.length_range, List.length_take, List.length_drop, nums_length, bools_length, vecs_length]; first | done | omega)) [A56, h1, e1, hb]
theorem nFrom_bad (q n : Int) {x : AV} {L : List Int} (hx : IsL .i64 x L) (hsL : L.length < 9223372036854775807) (hb : vecBad q n L ≠ 0) : FF tab 58 [(.ag [.i .i64 (q), .i .i64 (n)]), x] = some ⟨.tp [.z, errV (vecBad q n L)], []⟩ := by
  refine call_by (A := A58) rfl rfl ?_
  have fx := hx.flat
  have h1 := rVector q n hx hsL
  have c1 := vecBad_code q n L
  have e1 := errV_ne c1
  have f1 := errV_flat (vecBad q n L)
  generalize vecBad q n L = c at *
  simp (disch := first | assumption | omega | (simp only [List.length_cons, List.length_nil, List.length_set, List.length_append, List.length_replicate, List.length_map, List.length_range, List.length_take, List.length_drop, nums_length, bools_length, vecs_length]; first | done | omega)) [A58, h1, e1, hb]

set_option maxHeartbeats 8000000 in
theorem NttSays (q n : Int) (x : AV) (L : List Int) (hxN : IsNums .i64 x L) (y : AV) (M : List Int) (hyN : IsNums .i64 y M) : FF tab 16 [(.ag [.i .i64 (q), .i .i64 (n)]), x, y] = some ⟨.b true, []⟩ := by
  refine call_by (A := A16) rfl rfl ?_
  have hx := hxN.isL
  have hy := hyN.isL
  have fx := hx.flat
  have fy := hy.flat
  have lx := lenV_isL hx
  have ly := lenV_isL hy
  have h1 := first3
  have wz : IntKind.i64.wrap 0 = 0 := rfl
  by_cases b1 : n ≤ 64
  · by_cases b2 : (L.length : Int) ≤ 70
    · by_cases b3 : (M.length : Int) ≤ 70
      · have sL : L.length < 9223372036854775807 := by omega
        have sM : M.length < 9223372036854775807 := by omega
        have hV := fVectors q n (.two hx hy) (by intro K hK; simp only [List.mem_cons, List.not_mem_nil, or_false] at hK; rcases hK with rfl | rfl <;> omega) (by simp) (by simp)
        rw [show [x, y].length = 2 from rfl] at hV
        have hV1 := fVector q n hx sL
        have cb := vecBad_code q n L
        have cs := vecsBad_code q n [L, M]
        have i2 := SeeIs cb (vecBad q n L)
        have i3 := SeeIs cs (vecsBad q n [L, M])
        have f2 := errV_flat (vecBad q n L)
        have f3 := errV_flat (vecsBad q n [L, M])
        have i0 : FF tab 25 [.nl, .i .i64 0] = some ⟨.b true, []⟩ := SeeIs (c := 0) (.inl rfl) 0
        by_cases h0 : vecBad q n L = 0
        · obtain ⟨hq, hd, hn, hm⟩ := vecBad_zero.1 h0
          have t1 := nTo q n hx h0
          have t2 := nFrom q n hx h0
          have t3 := fTo q n hx h0
          have t4 := fFrom q n hx h0
          have l1 := toL_len hq hd L
          have l2 := fromL_len hq hd L
          have hnl : n.toNat = L.length := by omega
          rw [hnl] at l1 l2
          have s1 := SameInts (.mk .i64 (toL q n L)) (.mk .i64 (toL q n L)) (by omega)
          have s2 := SameInts (.mk .i64 (fromL q n L)) (.mk .i64 (fromL q n L)) (by omega)
          simp only [slv, l1, l2, decide_true] at s1 s2
          rw [h0] at hV1 i2 f2
          by_cases h00 : vecsBad q n [L, M] = 0
          · obtain ⟨hL, hM0⟩ := vecsBad_two.1 h00
            have g3 := nTimes q n hx hy hL hM0
            have r3 := fTimes q n hx hy hL hM0
            have l3 : (timesL q n L M).length = L.length := by
              obtain ⟨_, _, d3, _⟩ := dep_ok hq hd
              unfold timesL
              rw [timesTo_len, Nat.mul_comm, ← hnl]
              exact d3.symm
            have s3 := SameInts (.mk .i64 (timesL q n L M)) (.mk .i64 (timesL q n L M)) (by omega)
            simp only [slv, l3, decide_true] at s3
            rw [h00] at hV
            generalize toL q n L = T1 at *
            generalize fromL q n L = T2 at *
            generalize timesL q n L M = T3 at *
            clear hq hd hn hm cb cs i3 f3
            simp (disch := first | assumption | omega | (simp only [List.length_cons, List.length_nil, List.length_set, List.length_append, List.length_replicate, List.length_map, List.length_range, List.length_take, List.length_drop, nums_length, bools_length, vecs_length]; first | done | omega)) [A16, h1, lx, ly, b1, b2, b3, hV, hV1, i0, t1, t2, t3, t4, g3, r3, s1, s2, s3]
          · have g3 := nTimes_bad q n hx hy sL sM h00
            have h00' : ¬ (vecsBad q n [L, M] : Int) = 0 := by omega
            generalize toL q n L = T1 at *
            generalize fromL q n L = T2 at *
            generalize vecsBad q n [L, M] = c at *
            clear hq hd hn hm cb
            simp (disch := first | assumption | omega | (simp only [List.length_cons, List.length_nil, List.length_set, List.length_append, List.length_replicate, List.length_map, List.length_range, List.length_take, List.length_drop, nums_length, bools_length, vecs_length]; first | done | omega)) [A16, h1, lx, ly, b1, b2, b3, hV, hV1, i0, i3, t1, t2, t3, t4, g3, s1, s2, h00']
        · have h00 : vecsBad q n [L, M] ≠ 0 := fun h => h0 (vecsBad_two.1 h).1
          have g1 := nTo_bad q n hx sL h0
          have g2 := nFrom_bad q n hx sL h0
          have g3 := nTimes_bad q n hx hy sL sM h00
          have h0' : ¬ (vecBad q n L : Int) = 0 := by omega
          generalize vecsBad q n [L, M] = c at *
          generalize vecBad q n L = c' at *
          simp (disch := first | assumption | omega | (simp only [List.length_cons, List.length_nil, List.length_set, List.length_append, List.length_replicate, List.length_map, List.length_range, List.length_take, List.length_drop, nums_length, bools_length, vecs_length]; first | done | omega)) [A16, h1, lx, ly, b1, b2, b3, hV, hV1, i2, i3, g1, g2, g3, h0', wz]
      · simp (disch := first | assumption | omega | (simp only [List.length_cons, List.length_nil, List.length_set, List.length_append, List.length_replicate, List.length_map, List.length_range, List.length_take, List.length_drop, nums_length, bools_length, vecs_length]; first | done | omega)) [A16, h1, lx, ly, b1, b2, b3]
    · simp (disch := first | assumption | omega | (simp only [List.length_cons, List.length_nil, List.length_set, List.length_append, List.length_replicate, List.length_map, List.length_range, List.length_take, List.length_drop, nums_length, bools_length, vecs_length]; first | done | omega)) [A16, h1, lx, ly, b1, b2]
  · simp (disch := first | assumption | omega | (simp only [List.length_cons, List.length_nil, List.length_set, List.length_append, List.length_replicate, List.length_map, List.length_range, List.length_take, List.length_drop, nums_length, bools_length, vecs_length]; first | done | omega)) [A16, h1, lx, ly, b1]
end Zab.YtcebddjidpbhgaaDoor
