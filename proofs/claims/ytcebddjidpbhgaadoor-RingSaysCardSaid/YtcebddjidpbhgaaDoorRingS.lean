/- The statements of chapter 2: vectors, and what is amiss. -/
import Derived.Test.YtcebddjidpbhgaaDoorConvS
import Derived.Test.YtcebddjidpbhgaaDoorRef2
namespace Zab.YtcebddjidpbhgaaDoor
open Go
open Go.IntWalk (i64_in)
set_option maxRecDepth 100000
set_option linter.unusedSimpArgs false
set_option linter.unusedVariables false
attribute [-simp] getElem?_pos
attribute [local simp ↓] W_loop W_seq W_skip W_ret W_exit W_reg W_cond W_block W_pre cleanO_some freezes_nil freezes_cons frzO_some andThen_normal andThen_ret andThen_exit unblock_normal unblock_ret unblock_exit Ends_normal Ends_ret steps_nil steps_cons step_some st_move st_pick st_bin st_un st_conv st_addr sv_ixA sv_ixS sv_fld sv_ixV st_ixStr st_ext sv_build sv_bsl sv_mkS st_mkfn sv_lenS sv_len st_mn st_mx st_nilChk st_tas st_slc sv_loadg sv_load st_call sv_store sv_box sv_alloc sv_mkR sv_bslR sv_nilR sv_app sv_callK stepsAt_some onSome_some onB_true onB_false onG_tt onG_tf onG_ft onG_ff onG_un optPut_some optMem_some
attribute [local simp] evalO evalL constAV get_cons get_nil put_cons put_nil look_cons look_nil putD_some clean_mk freeze_mk mapS del_cons del_nil keepS_cons keepS_nil keepL_cons keepL_nil memb_cons memb_nil unV pureV convV_i addrV toArgs anyRs hasSl2L fromRetL finR resL resV toRets one Nat.beq Nat.ble shiftV_shr shiftV_shl IntKind.bits fillV List.getElem?_cons_zero List.getElem?_cons_succ List.length_cons List.length_nil List.set_cons_zero List.set_cons_succ setR2 setR3 zrep_eqs binV_i binI_shl binI_shr binI_eqs binV_eqs binV_slcE binV_slcN lendsC_some lends_nil lends_eqs fl_lends lends_rf lendsR_some lends_rs lendsS_some seesAny_no callK1_fn callK2_some callK3_some recvPut_some afterK_some afterK_none putAll_nil putAll_cons hasSlLL_nil hasSlLL_cons recv_os recv_op recv_no recvV_some recv_tp recvT_os recvT_op List.append_nil intV_quo intV_rem hasSlL mapR_eqs kill1_eqs frz1_eqs enterS_eqs enterL_eqs isRs_eqs toArg_eqs from1_eqs from_eqs toRet_eqs lentOf_eqs countR_eqs hasSl1_eqs hasSl2_eqs hasSl_eqs cellsOf_ag1 cellsOf_ag2 cellsOf_ag3 cellsOf_ag4 cellsOf_ag5 partV_2 partV_3 partV_4 partV_5 toRet_own ownR_of toArg_rs seenR_all seenR_part appS_rs appR_of srcV_sl srcV_z nilS_z bslS_some dec_t dec_f buildV_some bslV_some boxS_some root_mk ixSV_sl ixSV_rs ixAV_rf ixAV_el ixVV_ag fldV_ag lenV_sl lenV_rs lenV_z lenSV_s loadV_rf loadV_el loadR_some partV_none partV_all partV_some storeV_rf setR_one setR_all cellsOf_ag cellsOf_i cellsOf_b cellsOf_sl cellsOf_z cellsOf_er cellsOf_nl cellsOf_np cellsOf_s mkSV_of mkRS_of fl_map fl_kill fl_frz fl_enterS fl_enterL fl_lentOf fl_toArg fl_isRs fl_toRet fl_from1 fl_from fl_cells fl_countR nums_length nums_get nums_set nums_append nums_snoc nums_drop nums_take nums_zrep nums_hasSl bools_length bools_get bools_set bools_snoc bools_zrep bools_hasSl vecs_length vecs_get vecs_snoc slcV_sl idxO idx Nat.zero_add Nat.mul_one Nat.add_zero stepsAt_some onSome_some onB_true onB_false onG_tt onG_tf onG_ft onG_ff onG_un optPut_some optMem_some

set_option maxHeartbeats 8000000 in
theorem RingSays (q n : Int) (x : AV) (L : List Int) (hxN : IsNums .i64 x L) (y : AV) (M : List Int) (hyN : IsNums .i64 y M) (k : Int) : FF tab 12 [(.ag [.i .i64 (q), .i .i64 (n)]), x, y, .i .i64 k] = some ⟨.b true, []⟩ := by
  refine call_by (A := A12) rfl rfl ?_
  have hx := hxN.isL
  have hy := hyN.isL
  have fx := hx.flat
  have fy := hy.flat
  have h1 := first2
  have wz : IntKind.i64.wrap 0 = 0 := rfl
  have hl := Light q n hx hy
  by_cases hb : n ≤ 64 ∧ (L.length : Int) ≤ 70 ∧ (M.length : Int) ≤ 70
  · have sL : L.length < 9223372036854775807 := by omega
    have sM : M.length < 9223372036854775807 := by omega
    have hV := fVectors q n (.two hx hy) (by intro K hK; simp only [List.mem_cons, List.not_mem_nil, or_false] at hK; rcases hK with rfl | rfl <;> omega) (by simp) (by simp)
    rw [show [x, y].length = 2 from rfl] at hV
    have hV1 := fVector q n hx sL
    have hval := rValid q n
    have fval := fValid q n
    have ivec := rVector q n hx sL
    have ii := SeeIs (valid_code q n) (valid q n)
    have cv := valid_code q n
    have cb := vecBad_code q n L
    have cs := vecsBad_code q n [L, M]
    have i2 := SeeIs cb (vecBad q n L)
    have i3 := SeeIs cs (vecsBad q n [L, M])
    have f1 := errV_flat (valid q n)
    have f2 := errV_flat (vecBad q n L)
    have f3 := errV_flat (vecsBad q n [L, M])
    have i0 : FF tab 25 [.nl, .i .i64 0] = some ⟨.b true, []⟩ := SeeIs (c := 0) (.inl rfl) 0
    have hA := rAdd_bad q n hx hy sL sM
    have hS := rSub_bad q n hx hy sL sM
    have hM := rMul_bad q n hx hy sL sM
    by_cases h0 : vecBad q n L = 0
    · have g4 := rScale q n hx h0 k
      have g5 := rNorm q n hx h0
      obtain ⟨hq, _, _, _⟩ := vecBad_zero.1 h0
      have r4 := fScale q n hx h0 k
      have r5 := fNorm q n hx hq sL
      have ls : (L.map fun a => a * (k % q) % q).length = L.length := by simp
      have s4 := SameInts (.mk .i64 (L.map fun a => a * (k % q) % q)) (.mk .i64 (L.map fun a => a * (k % q) % q)) (by omega)
      simp only [slv, ls, decide_true] at s4
      rw [h0] at hV1 ivec i2 f2
      rw [show errV 0 = .nl from rfl] at ivec
      by_cases h00 : vecsBad q n [L, M] = 0
      · obtain ⟨hL, hM0⟩ := vecsBad_two.1 h00
        have g1 := rAdd q n hx hy hL hM0
        have g2 := rSub q n hx hy hL hM0
        have g3 := rMul q n hx hy hL hM0
        have r1 := fAdd q n hx hy hL hM0
        have r2 := fSub q n hx hy hL hM0
        have r3 := fPoint q n hx hy hL hM0
        have z1 := zipTo_len (fun a b => (a + b) % q) L M
        have z2 := zipTo_len (fun a b => (a - b) % q) L M
        have z3 := zipTo_len (fun a b => (a * b) % q) L M
        have s1 := SameInts (.mk .i64 (zipTo (fun a b => (a + b) % q) L M)) (.mk .i64 (zipTo (fun a b => (a + b) % q) L M)) (by omega)
        have s2 := SameInts (.mk .i64 (zipTo (fun a b => (a - b) % q) L M)) (.mk .i64 (zipTo (fun a b => (a - b) % q) L M)) (by omega)
        have s3 := SameInts (.mk .i64 (zipTo (fun a b => (a * b) % q) L M)) (.mk .i64 (zipTo (fun a b => (a * b) % q) L M)) (by omega)
        simp only [slv, z1, z2, z3, decide_true] at g1 g2 g3 s1 s2 s3
        rw [h00] at hV
        generalize (L.map fun a => a * (k % q) % q) = S4 at *
        generalize zipTo (fun a b => (a + b) % q) L M = Z1 at *
        generalize zipTo (fun a b => (a - b) % q) L M = Z2 at *
        generalize zipTo (fun a b => (a * b) % q) L M = Z3 at *
        generalize normL q L = no at *
        generalize valid q n = v at *
        simp (disch := first | assumption | omega | (simp only [List.length_cons, List.length_nil, List.length_set, List.length_append, List.length_replicate, List.length_map, List.length_range, List.length_take, List.length_drop, nums_length, bools_length, vecs_length]; first | done | omega)) [A12, h1, wz, hl, hb, hV, hV1, hval, fval, ivec, ii, i0, g1, g2, g3, g4, g5, r1, r2, r3, r4, r5, s1, s2, s3, s4]
      · have g1 := hA h00
        have g2 := hS h00
        have g3 := hM h00
        have h00' : ¬ (vecsBad q n [L, M] : Int) = 0 := by omega
        generalize (L.map fun a => a * (k % q) % q) = S4 at *
        generalize normL q L = no at *
        generalize valid q n = v at *
        generalize vecsBad q n [L, M] = c at *
        simp (disch := first | assumption | omega | (simp only [List.length_cons, List.length_nil, List.length_set, List.length_append, List.length_replicate, List.length_map, List.length_range, List.length_take, List.length_drop, nums_length, bools_length, vecs_length]; first | done | omega)) [A12, h1, wz, hl, hb, hV, hV1, hval, fval, ivec, ii, i0, i3, g1, g2, g3, g4, g5, r4, r5, s4, h00']
    · have h00 : vecsBad q n [L, M] ≠ 0 := fun h => h0 (vecsBad_two.1 h).1
      have g1 := hA h00
      have g2 := hS h00
      have g3 := hM h00
      have g4 := rScale_bad q n hx sL h0 k
      have g5 := rNorm_bad q n hx sL h0
      have h0' : ¬ (vecBad q n L : Int) = 0 := by omega
      generalize valid q n = v at *
      generalize vecsBad q n [L, M] = c at *
      generalize vecBad q n L = c' at *
      simp (disch := first | assumption | omega | (simp only [List.length_cons, List.length_nil, List.length_set, List.length_append, List.length_replicate, List.length_map, List.length_range, List.length_take, List.length_drop, nums_length, bools_length, vecs_length]; first | done | omega)) [A12, h1, wz, hl, hb, hV, hV1, hval, fval, ivec, ii, i2, i3, g1, g2, g3, g4, g5, h0']
  · simp (disch := first | assumption | omega | (simp only [List.length_cons, List.length_nil, List.length_set, List.length_append, List.length_replicate, List.length_map, List.length_range, List.length_take, List.length_drop, nums_length, bools_length, vecs_length]; first | done | omega)) [A12, h1, wz, hl, hb]
end Zab.YtcebddjidpbhgaaDoor
