/- The statements of chapter 2: powers of X. -/
import Derived.Test.YtcebddjidpbhgaaDoorBConvA
import Derived.Test.YtcebddjidpbhgaaDoorBMake
import Derived.Test.YtcebddjidpbhgaaDoorZabData
import Derived.KernelRfl
namespace Zab.YtcebddjidpbhgaaDoorB
open Go
open Go.IntWalk (i64_in)
set_option maxRecDepth 100000
set_option linter.unusedSimpArgs false
set_option linter.unusedVariables false
attribute [-simp] getElem?_pos
attribute [local simp ↓] W_loop W_seq W_skip W_ret W_exit W_reg W_cond W_block W_pre cleanO_some freezes_nil freezes_cons frzO_some andThen_normal andThen_ret andThen_exit unblock_normal unblock_ret unblock_exit Ends_normal Ends_ret steps_nil steps_cons step_some st_move st_pick st_bin st_un st_conv st_addr sv_ixA sv_ixS sv_fld sv_ixV st_ixStr st_ext sv_build sv_bsl sv_mkS st_mkfn sv_lenS sv_len st_mn st_mx st_nilChk st_tas st_slc sv_loadg sv_load st_call sv_store sv_box sv_alloc sv_mkR sv_bslR sv_nilR sv_app st_callK stepsAt_some onSome_some onB_true onB_false onG_tt onG_tf onG_ft onG_ff onG_un optPut_some optMem_some
attribute [local simp] evalO evalL constAV get_cons get_nil put_cons put_nil look_cons look_nil putD_some clean_mk freeze_mk mapS del_cons del_nil keepS_cons keepS_nil keepL_cons keepL_nil memb_cons memb_nil unV pureV convV_i addrV toArgs anyRs hasSl2L fromRetL finR resL resV toRets one Nat.beq Nat.ble shiftV_shr shiftV_shl IntKind.bits fillV List.getElem?_cons_zero List.getElem?_cons_succ List.length_cons List.length_nil List.set_cons_zero List.set_cons_succ setR2 setR3 zrep_eqs binV_i binI_shl binI_shr binI_eqs binV_eqs intV_quo intV_rem hasSlL mapR_eqs kill1_eqs frz1_eqs enterS_eqs enterL_eqs isRs_eqs toArg_eqs from1_eqs from_eqs toRet_eqs lentOf_eqs countR_eqs hasSl1_eqs hasSl2_eqs hasSl_eqs cellsOf_ag1 cellsOf_ag2 cellsOf_ag3 cellsOf_ag4 cellsOf_ag5 partV_2 partV_3 partV_4 partV_5 toRet_own ownR_of toArg_rs seenR_all seenR_part appS_rs appR_of srcV_sl srcV_z nilS_z bslS_some dec_t dec_f buildV_some bslV_some boxS_some root_mk ixSV_sl ixSV_rs ixAV_rf ixAV_el ixVV_ag fldV_ag lenV_sl lenV_rs lenV_z lenSV_s loadV_rf loadV_el loadR_some partV_none partV_all partV_some storeV_rf setR_one setR_all cellsOf_ag cellsOf_i cellsOf_b cellsOf_sl cellsOf_z cellsOf_er cellsOf_nl cellsOf_np cellsOf_s mkSV_of mkRS_of fl_map fl_kill fl_frz fl_enterS fl_enterL fl_lentOf fl_toArg fl_isRs fl_toRet fl_from1 fl_from fl_cells fl_countR nums_length nums_get nums_set nums_append nums_snoc nums_drop nums_take nums_zrep nums_hasSl bools_length bools_get bools_set bools_snoc bools_zrep bools_hasSl vecs_length vecs_get vecs_snoc slcV_sl idxO idx Nat.zero_add Nat.mul_one Nat.add_zero stepsAt_some onSome_some onB_true onB_false onG_tt onG_tf onG_ft onG_ff onG_un optPut_some optMem_some

theorem first2 : FF tab 29 [] = some ⟨.b true, []⟩ := FF_of (n := 60) (by kernel_rfl)
theorem bare_two (i : Int) (h : inK .i64 i) : (i < 0 ∧ ∃ Q1, IntKind.i64.wrap (i + 1) = Q1 ∧ IntKind.i64.wrap (-Q1) = bare i) ∨ (¬ i < 0 ∧ bare i = i) := by
  obtain ⟨n1, n2⟩ := inK_i64 h
  by_cases h : i < 0
  · left
    refine ⟨h, _, rfl, ?_⟩
    rw [show IntKind.i64.wrap (i + 1) = i + 1 from i64_in _ (by omega), show bare i = -(i + 1) from if_pos h]
    exact i64_in _ (by omega)
  · right; exact ⟨h, if_neg h⟩

set_option maxHeartbeats 16000000 in
theorem ConvMonos (q0 : Int) (hq0 : inK .i64 q0) (n0 : Int) (hn0 : inK .i64 n0) (i0 : Int) (hi0 : inK .i64 i0) (k0 : Int) (hk0 : inK .i64 k0) : FF tab 6 [.i .i64 q0, .i .i64 n0, .i .i64 i0, .i .i64 k0] = some ⟨.b true, []⟩ := by
  refine call_by (A := A6) rfl rfl ?_
  have h1 := first2
  have hR := MakeRing q0 n0 hq0 hn0
  have hq := mkQ_right (q := q0)
  have hd := mkN_deg (n := n0)
  generalize mkQ q0 = q at *
  generalize mkN n0 = n at *
  have si := bare_two i0 hi0
  have sk := bare_two k0 hk0
  have bi := bare_ok hi0
  have bk := bare_ok hk0
  generalize bare i0 = I at *
  generalize bare k0 = K at *
  have lo := hd.lo
  have hi := hd.hi
  have qlo := hq.lo
  have qhi := hq.hi
  have hn0 : n ≠ 0 := by omega
  have ti : I.tmod n = I % n := Int.tmod_eq_emod_of_nonneg bi.1
  have tk : K.tmod n = K % n := Int.tmod_eq_emod_of_nonneg bk.1
  have i1 := Int.emod_nonneg I hn0
  have i2 := Int.emod_lt_of_pos I (show 0 < n by omega)
  have k1 := Int.emod_nonneg K hn0
  have k2 := Int.emod_lt_of_pos K (show 0 < n by omega)
  obtain ⟨N, hN⟩ : ∃ N : Nat, (N : Int) = n := ⟨n.toNat, by omega⟩
  obtain ⟨i, hi'⟩ : ∃ i : Nat, (i : Int) = I % n := ⟨(I % n).toNat, by omega⟩
  obtain ⟨k, hk'⟩ : ∃ k : Nat, (k : Int) = K % n := ⟨(K % n).toNat, by omega⟩
  have tN : n.toNat = N := by omega
  have tI : (I % n).toNat = i := by omega
  have tK : (K % n).toNat = k := by omega
  have hiN : i < N := by omega
  have hkN : k < N := by omega
  have wik : IntKind.i64.wrap (I % n + K % n) = I % n + K % n := i64_in _ (by omega)
  have wikn : IntKind.i64.wrap (I % n + K % n - n) = I % n + K % n - n := i64_in _ (by omega)
  have wq : IntKind.i64.wrap (q - 1) = q - 1 := i64_in _ (by omega)
  have uI : (List.replicate N (0 : Int)).set i 1 = unit N i 1 := rfl
  have uK : (List.replicate N (0 : Int)).set k 1 = unit N k 1 := rfl
  have uIm := vecBad_zero (q := q) (n := n) (L := unit N i 1) |>.2 ⟨hq, hd, by rw [unit_len]; exact hN, unit_mods (by omega) hiN 1 (by omega) (by omega)⟩
  have uKm := vecBad_zero (q := q) (n := n) (L := unit N k 1) |>.2 ⟨hq, hd, by rw [unit_len]; exact hN, unit_mods (by omega) hkN 1 (by omega) (by omega)⟩
  have hC := rConv q n (.mk .i64 (unit N i 1)) (.mk .i64 (unit N k 1)) uIm uKm
  have hcu := convL_unit (show 1 < q by omega) hiN hkN
  have hcl := convL_len q (unit N i 1) (unit N k 1)
  have hS := SameInts (.mk .i64 (convL q (unit N i 1) (unit N k 1))) (.mk .i64 (convL q (unit N i 1) (unit N k 1))) (by rw [hcl, unit_len]; omega)
  rw [unit_len] at hcl
  simp only [slv, unit_len, hcl, decide_true] at hC hS
  have l1 := unit_len N i 1
  have l2 := unit_len N k 1
  by_cases hc : n ≤ I % n + K % n
  · have hc' : ¬ i + k < N := by omega
    rw [if_neg hc'] at hcu
    have te : (I % n + K % n).tmod n = I % n + K % n - n := by
      rw [Int.tmod_eq_emod_of_nonneg (by omega)]
      have : (I % n + K % n) = (I % n + K % n - n) + n := by omega
      rw [this, Int.add_emod_right]
      have e2 : I % n + K % n - n + n - n = I % n + K % n - n := by omega
      rw [e2]
      exact Int.emod_eq_of_lt (by omega) (by omega)
    have tt : (I % n + K % n - n).toNat = i + k - N := by omega
    have tb : 0 ≤ I % n + K % n - n ∧ I % n + K % n - n < (N : Int) := by omega
    have tb2 : i + k - N < N := by omega
    have uS : ((List.replicate N (0 : Int)).set (i + k - N) 1).set (i + k - N) (q - 1) = convL q (unit N i 1) (unit N k 1) := by
      rw [List.set_set, hcu]; rfl
    generalize convL q (unit N i 1) (unit N k 1) = C at *
    generalize unit N i 1 = U at *
    generalize unit N k 1 = V at *
    generalize i + k - N = t at *
    have tU : U.take N = U := List.take_of_length_le (by omega)
    have tV : V.take N = V := List.take_of_length_le (by omega)
    clear hcu uIm uKm
    generalize I % n = A at *
    generalize K % n = B at *
    rcases si with ⟨si, Q1, w1, w2⟩ | ⟨si, rfl⟩ <;> rcases sk with ⟨sk, Q2, w3, w4⟩ | ⟨sk, rfl⟩
    · simp (disch := first | assumption | omega | (simp only [List.length_cons, List.length_nil, List.length_set, List.length_append, List.length_replicate, List.length_map, List.length_range, List.length_take, List.length_drop, nums_length, bools_length, vecs_length]; first | done | omega)) [A6, h1, hR, setR2, si, sk, w1, w2, w3, w4, hn0, ti, tk, tN, tI, tK, uI, uK, tU, tV, hC, wik, wikn, wq, hc, te, tt, uS, hS]
    · simp (disch := first | assumption | omega | (simp only [List.length_cons, List.length_nil, List.length_set, List.length_append, List.length_replicate, List.length_map, List.length_range, List.length_take, List.length_drop, nums_length, bools_length, vecs_length]; first | done | omega)) [A6, h1, hR, setR2, si, sk, w1, w2, hn0, ti, tk, tN, tI, tK, uI, uK, tU, tV, hC, wik, wikn, wq, hc, te, tt, uS, hS]
    · simp (disch := first | assumption | omega | (simp only [List.length_cons, List.length_nil, List.length_set, List.length_append, List.length_replicate, List.length_map, List.length_range, List.length_take, List.length_drop, nums_length, bools_length, vecs_length]; first | done | omega)) [A6, h1, hR, setR2, si, sk, w3, w4, hn0, ti, tk, tN, tI, tK, uI, uK, tU, tV, hC, wik, wikn, wq, hc, te, tt, uS, hS]
    · simp (disch := first | assumption | omega | (simp only [List.length_cons, List.length_nil, List.length_set, List.length_append, List.length_replicate, List.length_map, List.length_range, List.length_take, List.length_drop, nums_length, bools_length, vecs_length]; first | done | omega)) [A6, h1, hR, setR2, si, sk, hn0, ti, tk, tN, tI, tK, uI, uK, tU, tV, hC, wik, wikn, wq, hc, te, tt, uS, hS]
  · have hc' : i + k < N := by omega
    rw [if_pos hc'] at hcu
    have te : (I % n + K % n).tmod n = I % n + K % n := by
      rw [Int.tmod_eq_emod_of_nonneg (by omega)]
      exact Int.emod_eq_of_lt (by omega) (by omega)
    have tt : (I % n + K % n).toNat = i + k := by omega
    have tb : 0 ≤ I % n + K % n ∧ I % n + K % n < (N : Int) := by omega
    have uS : (List.replicate N (0 : Int)).set (i + k) 1 = convL q (unit N i 1) (unit N k 1) := by
      rw [hcu]; rfl
    generalize convL q (unit N i 1) (unit N k 1) = C at *
    generalize unit N i 1 = U at *
    generalize unit N k 1 = V at *
    generalize i + k = t at *
    have tU : U.take N = U := List.take_of_length_le (by omega)
    have tV : V.take N = V := List.take_of_length_le (by omega)
    clear hcu uIm uKm
    generalize I % n = A at *
    generalize K % n = B at *
    rcases si with ⟨si, Q1, w1, w2⟩ | ⟨si, rfl⟩ <;> rcases sk with ⟨sk, Q2, w3, w4⟩ | ⟨sk, rfl⟩
    · simp (disch := first | assumption | omega | (simp only [List.length_cons, List.length_nil, List.length_set, List.length_append, List.length_replicate, List.length_map, List.length_range, List.length_take, List.length_drop, nums_length, bools_length, vecs_length]; first | done | omega)) [A6, h1, hR, setR2, si, sk, w1, w2, w3, w4, hn0, ti, tk, tN, tI, tK, uI, uK, tU, tV, hC, wik, wikn, wq, hc, te, tt, uS, hS]
    · simp (disch := first | assumption | omega | (simp only [List.length_cons, List.length_nil, List.length_set, List.length_append, List.length_replicate, List.length_map, List.length_range, List.length_take, List.length_drop, nums_length, bools_length, vecs_length]; first | done | omega)) [A6, h1, hR, setR2, si, sk, w1, w2, hn0, ti, tk, tN, tI, tK, uI, uK, tU, tV, hC, wik, wikn, wq, hc, te, tt, uS, hS]
    · simp (disch := first | assumption | omega | (simp only [List.length_cons, List.length_nil, List.length_set, List.length_append, List.length_replicate, List.length_map, List.length_range, List.length_take, List.length_drop, nums_length, bools_length, vecs_length]; first | done | omega)) [A6, h1, hR, setR2, si, sk, w3, w4, hn0, ti, tk, tN, tI, tK, uI, uK, tU, tV, hC, wik, wikn, wq, hc, te, tt, uS, hS]
    · simp (disch := first | assumption | omega | (simp only [List.length_cons, List.length_nil, List.length_set, List.length_append, List.length_replicate, List.length_map, List.length_range, List.length_take, List.length_drop, nums_length, bools_length, vecs_length]; first | done | omega)) [A6, h1, hR, setR2, si, sk, hn0, ti, tk, tN, tI, tK, uI, uK, tU, tV, hC, wik, wikn, wq, hc, te, tt, uS, hS]
end Zab.YtcebddjidpbhgaaDoorB
