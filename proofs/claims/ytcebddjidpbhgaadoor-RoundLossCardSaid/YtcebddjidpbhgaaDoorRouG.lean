/- The statements of chapter 7: the loss. -/
import Derived.Test.YtcebddjidpbhgaaDoorRouF
namespace Zab.YtcebddjidpbhgaaDoor
open Go
open Go.IntWalk (i64_in)
set_option maxRecDepth 100000
set_option linter.unusedSimpArgs false
set_option linter.unusedVariables false
attribute [-simp] getElem?_pos
attribute [local simp ↓] W_loop W_seq W_skip W_ret W_exit W_reg W_cond W_block W_pre cleanO_some freezes_nil freezes_cons frzO_some andThen_normal andThen_ret andThen_exit unblock_normal unblock_ret unblock_exit Ends_normal Ends_ret steps_nil steps_cons step_some st_move st_pick st_bin st_un st_conv st_addr sv_ixA sv_ixS sv_fld sv_ixV st_ixStr st_ext sv_build sv_bsl sv_mkS st_mkfn sv_lenS sv_len st_mn st_mx st_nilChk st_tas st_slc sv_loadg sv_load st_call sv_store sv_box sv_alloc sv_mkR sv_bslR sv_nilR sv_app st_callK stepsAt_some onSome_some onB_true onB_false onG_tt onG_tf onG_ft onG_ff onG_un optPut_some optMem_some
attribute [local simp] evalO evalL constAV get_cons get_nil put_cons put_nil look_cons look_nil putD_some clean_mk freeze_mk mapS del_cons del_nil keepS_cons keepS_nil keepL_cons keepL_nil memb_cons memb_nil unV pureV convV_i addrV toArgs anyRs hasSl2L fromRetL finR resL resV toRets one Nat.beq Nat.ble shiftV_shr shiftV_shl IntKind.bits fillV List.getElem?_cons_zero List.getElem?_cons_succ List.length_cons List.length_nil List.set_cons_zero List.set_cons_succ setR2 setR3 zrep_eqs binV_i binI_shl binI_shr binI_eqs binV_eqs intV_quo intV_rem hasSlL mapR_eqs kill1_eqs frz1_eqs enterS_eqs enterL_eqs isRs_eqs toArg_eqs from1_eqs from_eqs toRet_eqs lentOf_eqs countR_eqs hasSl1_eqs hasSl2_eqs hasSl_eqs cellsOf_ag1 cellsOf_ag2 cellsOf_ag3 cellsOf_ag4 cellsOf_ag5 partV_2 partV_3 partV_4 partV_5 toRet_own ownR_of toArg_rs seenR_all seenR_part appS_rs appR_of srcV_sl srcV_z nilS_z bslS_some dec_t dec_f buildV_some bslV_some boxS_some root_mk ixSV_sl ixSV_rs ixAV_rf ixAV_el ixVV_ag fldV_ag lenV_sl lenV_rs lenV_z lenSV_s loadV_rf loadV_el loadR_some partV_none partV_all partV_some storeV_rf setR_one setR_all cellsOf_ag cellsOf_i cellsOf_b cellsOf_sl cellsOf_z cellsOf_er cellsOf_nl cellsOf_np cellsOf_s mkSV_of mkRS_of fl_map fl_kill fl_frz fl_enterS fl_enterL fl_lentOf fl_toArg fl_isRs fl_toRet fl_from1 fl_from fl_cells fl_countR nums_length nums_get nums_set nums_append nums_snoc nums_drop nums_take nums_zrep nums_hasSl bools_length bools_get bools_set bools_snoc bools_zrep bools_hasSl vecs_length vecs_get vecs_snoc slcV_sl idxO idx Nat.zero_add Nat.mul_one Nat.add_zero stepsAt_some onSome_some onB_true onB_false onG_tt onG_tf onG_ft onG_ff onG_un optPut_some optMem_some

def lossL : List Int := [17, 97, 257, 3329, 7681, 12289]
theorem lossL_right {j : Nat} (h : j < 6) : Right (ni lossL j) ∧ ni lossL j ≤ 12289 := by
  have : j = 0 ∨ j = 1 ∨ j = 2 ∨ j = 3 ∨ j = 4 ∨ j = 5 := by omega
  rcases this with rfl | rfl | rfl | rfl | rfl | rfl <;> simp [ni, lossL, Right]
theorem RoundLoss (k d : Int) : FF tab 8 [.i .i64 k, .i .i64 d] = some ⟨.b true, []⟩ := by
  refine call_by (A := A8) rfl rfl ?_
  have h1 := first7
  have hK := Number k 6 (by omega) (by omega)
  have hD := Number d 15 (by omega) (by omega)
  have k0 : 0 ≤ k % 6 ∧ k % 6 < 6 := by omega
  have d0 : 0 ≤ d % 15 ∧ d % 15 < 15 := by omega
  have eL : ([.i .i64 17, .i .i64 97, .i .i64 257, .i .i64 3329, .i .i64 7681, .i .i64 12289] : List AV) = nums .i64 lossL := rfl
  have lL : lossL.length = 6 := rfl
  have lL' : (nums .i64 lossL).length = 6 := rfl
  have g1 := nums_get (k := .i64) (L := lossL) (j := (k % 6).toNat) (by omega)
  obtain ⟨hq, hq2⟩ := lossL_right (j := (k % 6).toNat) (by omega)
  generalize k % 6 = K at *
  generalize d % 15 = D at *
  generalize ni lossL K.toNat = q at *
  generalize nums .i64 lossL = cL at *
  have lo := hq.lo
  have e1 : FF tab 38 [(.ag [.i .i64 (15), .i .i64 (4)]), .i .i64 2] = some ⟨.tp [.i .i64 0, errV 101], []⟩ := rLoss_bad (by
    have : fairBad 15 4 2 = 101 := by decide
    omega)
  have i1 := SeeIs (c := 101) (by unfold Code; simp) 101
  rw [show errV 101 = .er 1 from rfl] at i1 e1
  by_cases hb : Bits q D
  · have hL := rLoss q 4 hq (by unfold Deg; omega) hb
    have hF := fLoss q 4 hq hb
    have b1 := hb.1
    have hp := P_bound hb.1 hb.2.1
    have w := u64_in (a := D) (by omega) (by omega)
    have s1 := shl_P (a := 1) (d := D) (b := P D) (by omega) (by omega) (by omega) (by omega)
    have b3 : ¬ q ≤ P D := by have := hb.2.2; omega
    have b4 : ¬ D < 1 := by omega
    generalize lossN q D = N at *
    simp (disch := first | assumption | omega | (simp only [List.length_cons, List.length_nil, List.length_set, List.length_append, List.length_replicate, List.length_map, List.length_range, List.length_take, List.length_drop, nums_length, bools_length, vecs_length]; first | done | omega)) [A8, h1, hK, hD, ↓eL, g1, hL, hF, e1, i1, w, s1, b3, b4, -shiftV_shl]
  · have hL := rLoss_bad (q := q) (n := 4) (d := D) (fun h => hb (fair_zero.1 h).2.2)
    rw [show errV 101 = .er 1 from rfl] at hL
    by_cases b4 : D < 1
    · simp (disch := first | assumption | omega | (simp only [List.length_cons, List.length_nil, List.length_set, List.length_append, List.length_replicate, List.length_map, List.length_range, List.length_take, List.length_drop, nums_length, bools_length, vecs_length]; first | done | omega)) [A8, h1, hK, hD, ↓eL, g1, hL, i1, b4, -shiftV_shl]
    · have hp := P_bound (d := D) (by omega) (by omega)
      have w := u64_in (a := D) (by omega) (by omega)
      have s1 := shl_P (a := 1) (d := D) (b := P D) (by omega) (by omega) (by omega) (by omega)
      have b3 : q ≤ P D := by unfold Bits at hb; omega
      simp (disch := first | assumption | omega | (simp only [List.length_cons, List.length_nil, List.length_set, List.length_append, List.length_replicate, List.length_map, List.length_range, List.length_take, List.length_drop, nums_length, bools_length, vecs_length]; first | done | omega)) [A8, h1, hK, hD, ↓eL, g1, hL, i1, w, s1, b3, b4, -shiftV_shl]
end Zab.YtcebddjidpbhgaaDoor
