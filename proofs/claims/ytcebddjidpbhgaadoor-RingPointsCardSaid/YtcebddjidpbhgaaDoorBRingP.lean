/- The statements of chapter 2: vectors, number by number. -/
import Derived.Test.YtcebddjidpbhgaaDoorBRingN
namespace Zab.YtcebddjidpbhgaaDoorB
open Go
open Go.IntWalk (i64_in)
set_option maxRecDepth 100000
set_option linter.unusedSimpArgs false
set_option linter.unusedVariables false
attribute [-simp] getElem?_pos
attribute [local simp ↓] W_loop W_seq W_skip W_ret W_exit W_reg W_cond W_block W_pre cleanO_some freezes_nil freezes_cons frzO_some andThen_normal andThen_ret andThen_exit unblock_normal unblock_ret unblock_exit Ends_normal Ends_ret steps_nil steps_cons step_some st_move st_pick st_bin st_un st_conv st_addr sv_ixA sv_ixS sv_fld sv_ixV st_ixStr st_ext sv_build sv_bsl sv_mkS st_mkfn sv_lenS sv_len st_mn st_mx st_nilChk st_tas st_slc sv_loadg sv_load st_call sv_store sv_box sv_alloc sv_mkR sv_bslR sv_nilR sv_app st_callK stepsAt_some onSome_some onB_true onB_false onG_tt onG_tf onG_ft onG_ff onG_un optPut_some optMem_some
attribute [local simp] evalO evalL constAV get_cons get_nil put_cons put_nil look_cons look_nil putD_some clean_mk freeze_mk mapS del_cons del_nil keepS_cons keepS_nil keepL_cons keepL_nil memb_cons memb_nil unV pureV convV_i addrV toArgs anyRs hasSl2L fromRetL finR resL resV toRets one Nat.beq Nat.ble shiftV_shr shiftV_shl IntKind.bits fillV List.getElem?_cons_zero List.getElem?_cons_succ List.length_cons List.length_nil List.set_cons_zero List.set_cons_succ setR2 setR3 zrep_eqs binV_i binI_shl binI_shr binI_eqs binV_eqs binV_slcE binV_slcN intV_quo intV_rem hasSlL mapR_eqs kill1_eqs frz1_eqs enterS_eqs enterL_eqs isRs_eqs toArg_eqs from1_eqs from_eqs toRet_eqs lentOf_eqs countR_eqs hasSl1_eqs hasSl2_eqs hasSl_eqs cellsOf_ag1 cellsOf_ag2 cellsOf_ag3 cellsOf_ag4 cellsOf_ag5 partV_2 partV_3 partV_4 partV_5 toRet_own ownR_of toArg_rs seenR_all seenR_part appS_rs appR_of srcV_sl srcV_z nilS_z bslS_some dec_t dec_f buildV_some bslV_some boxS_some root_mk ixSV_sl ixSV_rs ixAV_rf ixAV_el ixVV_ag fldV_ag lenV_sl lenV_rs lenV_z lenSV_s loadV_rf loadV_el loadR_some partV_none partV_all partV_some storeV_rf setR_one setR_all cellsOf_ag cellsOf_i cellsOf_b cellsOf_sl cellsOf_z cellsOf_er cellsOf_nl cellsOf_np cellsOf_s mkSV_of mkRS_of fl_map fl_kill fl_frz fl_enterS fl_enterL fl_lentOf fl_toArg fl_isRs fl_toRet fl_from1 fl_from fl_cells fl_countR nums_length nums_get nums_set nums_append nums_snoc nums_drop nums_take nums_zrep nums_hasSl bools_length bools_get bools_set bools_snoc bools_zrep bools_hasSl vecs_length vecs_get vecs_snoc slcV_sl idxO idx Nat.zero_add Nat.mul_one Nat.add_zero stepsAt_some onSome_some onB_true onB_false onG_tt onG_tf onG_ft onG_ff onG_un optPut_some optMem_some

set_option maxHeartbeats 4000000 in
theorem RingPoints (q0 : Int) (hq0 : inK .i64 q0) (n0 : Int) (hn0 : inK .i64 n0) (x : AV) (L : List Int) (hxN : IsNums .i64 x L) (y : AV) (M : List Int) (hyN : IsNums .i64 y M) (u : AV) (P : List Int) (hzN : IsNums .i64 u P) :
    FF tab 13 [.i .i64 q0, .i .i64 n0, x, y, u] = some ⟨.b true, []⟩ := by
  refine call_by (A := A13) rfl rfl ?_
  have hx := hxN.isL
  have hy := hyN.isL
  have hz := hzN.isL
  have fx := hx.flat
  have fy := hy.flat
  have fz := hz.flat
  have lx := lenV_isL hx
  have ly := lenV_isL hy
  have lz := lenV_isL hz
  have h1 := first2
  by_cases c1 : (L.length : Int) ≤ 40
  · by_cases c2 : (M.length : Int) ≤ 40
    · by_cases c3 : (P.length : Int) ≤ 40
      · have hR := MakeRing q0 n0 hq0 hn0
        have hv := mk_valid q0 n0
        have hq := mkQ_right (q := q0)
        have hd4 := mkN_four (n := n0)
        generalize mkQ q0 = q at *
        generalize mkN n0 = n at *
        obtain ⟨mA, vA⟩ := mvN hv hx c1
        obtain ⟨mB, vB⟩ := mvN hv hy c2
        obtain ⟨mC, vC⟩ := mvN hv hz c3
        obtain ⟨N, hN⟩ : ∃ N : Nat, (N : Int) = n := ⟨n.toNat, by omega⟩
        have tN : n.toNat = N := by omega
        rw [tN] at mA mB mC vA vB vC
        generalize mkVec q n L = A at *
        generalize mkVec q n M = B at *
        generalize mkVec q n P = C at *
        have qlo := hq.lo
        have q0' : 0 < q := by omega
        have hN4 : 4 ≤ N ∧ N ≤ 32 := by omega
        have in1 : ∀ a b : Int, 0 ≤ (a + b) % q ∧ (a + b) % q < q := fun a b => mod_in q0' _
        have in2 : ∀ a b : Int, 0 ≤ (a - b) % q ∧ (a - b) % q < q := fun a b => mod_in q0' _
        have in3 : ∀ a b : Int, 0 ≤ (a * b) % q ∧ (a * b) % q < q := fun a b => mod_in q0' _
        have vS := vB.zip (M := C) in1
        have vP := vA.zip (M := B) in3
        have vO := vA.zip (M := C) in3
        have vU := vA.zip (M := zipTo (fun a b => (a + b) % q) B C) in3
        have v0 : VB q n N (List.replicate N 0) := vA.of (by simp) (by intro a ha; obtain ⟨_, rfl⟩ := List.mem_replicate.1 ha; omega)
        have vM := v0.zip (M := A) in2
        have g1 := adN vB vC
        have g2 := muN vA vB
        have g3 := muN vA vC
        have g4 := muN vA vS
        have g5 := adN vP vO
        rw [← over_add vA.len vB.len vC.len] at g5
        have g6 := suN vS vC
        rw [add_sub vB.len vC.len vB.mods] at g6
        have g7 := scN vA (-1)
        rw [← neg_scale vA.len] at g7
        have g8 := suN v0 vA
        have g9 := noN vA
        have g10 := noN vM
        rw [norm_neg (L := A) hq (by rw [zipTo_len, v0.len, vA.len]) (fun j hj => by
          rw [zipTo_ni _ _ _ (by rw [v0.len, ← vA.len]; exact hj)]
          rw [ni_get (L := List.replicate N 0) (by rw [v0.len, ← vA.len]; exact hj)]
          simp only [List.getElem_replicate, Int.zero_sub]
          exact Eqm.mod _ _)] at g10
        have g11 := fVector q n (.mk .i64 (zipTo (fun a b => a * b % q) A (zipTo (fun a b => (a + b) % q) B C))) (by rw [vU.len]; omega)
        rw [vU.slv, vU.bad] at g11
        have s1 := smN (N := N) vU.len (by omega)
        have s2 := smN (N := N) vB.len (by omega)
        have s3 := smN (N := N) vM.len (by omega)
        have lM := vM.len
        clear hd4 hv vA vB vC vS vP vO vU v0 vM hq in1 in2 in3
        generalize zipTo (fun a b => a * b % q) A (zipTo (fun a b => (a + b) % q) B C) = U at *
        generalize zipTo (fun a b => (a + b) % q) B C = S at *
        generalize zipTo (fun a b => a * b % q) A B = AB at *
        generalize zipTo (fun a b => a * b % q) A C = AC at *
        generalize zipTo (fun a b => (a - b) % q) (List.replicate N 0) A = MI at *
        generalize normL q A = no at *
        simp (disch := first | assumption | omega | (simp only [List.length_cons, List.length_nil, List.length_set, List.length_append, List.length_replicate, List.length_map, List.length_range, List.length_take, List.length_drop, nums_length, bools_length, vecs_length]; first | done | omega)) [A13, h1, lx, ly, lz, c1, c2, c3, hR, mA, mB, mC, g1, g2, g3, g4, g5, g6, g7, g8, g9, g10, g11, s1, s2, s3, hN, tN]
      · simp (disch := first | assumption | omega | (simp only [List.length_cons, List.length_nil, List.length_set, List.length_append, List.length_replicate, List.length_map, List.length_range, List.length_take, List.length_drop, nums_length, bools_length, vecs_length]; first | done | omega)) [A13, h1, lx, ly, lz, c1, c2, c3]
    · simp (disch := first | assumption | omega | (simp only [List.length_cons, List.length_nil, List.length_set, List.length_append, List.length_replicate, List.length_map, List.length_range, List.length_take, List.length_drop, nums_length, bools_length, vecs_length]; first | done | omega)) [A13, h1, lx, ly, c1, c2]
  · simp (disch := first | assumption | omega | (simp only [List.length_cons, List.length_nil, List.length_set, List.length_append, List.length_replicate, List.length_map, List.length_range, List.length_take, List.length_drop, nums_length, bools_length, vecs_length]; first | done | omega)) [A13, h1, lx, c1]
end Zab.YtcebddjidpbhgaaDoorB
