/- The statements of chapter 2: products as a ring's. -/
import Derived.Test.YtcebddjidpbhgaaDoorBConvA
import Derived.Test.YtcebddjidpbhgaaDoorBMake
import Derived.Test.YtcebddjidpbhgaaDoorZabData
import Derived.KernelRfl
namespace Zab.YtcebddjidpbhgaaDoorB
open Go
open Go.IntWalk (i64_in)
set_option maxRecDepth 100000
set_option linter.unusedSimpArgs false
set_option linter.unusedVariables false
attribute [-simp] getElem?_pos
attribute [local simp ↓] W_loop W_seq W_skip W_ret W_exit W_reg W_cond W_block W_pre cleanO_some freezes_nil freezes_cons frzO_some andThen_normal andThen_ret andThen_exit unblock_normal unblock_ret unblock_exit Ends_normal Ends_ret steps_nil steps_cons step_some st_move st_pick st_bin st_un st_conv st_addr sv_ixA sv_ixS sv_fld sv_ixV st_ixStr st_ext sv_build sv_bsl sv_mkS st_mkfn sv_lenS sv_len st_mn st_mx st_nilChk st_tas st_slc sv_loadg sv_load st_call sv_store sv_box sv_alloc sv_mkR sv_bslR sv_nilR sv_app sv_callK stepsAt_some onSome_some onB_true onB_false onG_tt onG_tf onG_ft onG_ff onG_un optPut_some optMem_some
attribute [local simp] evalO evalL constAV get_cons get_nil put_cons put_nil look_cons look_nil putD_some clean_mk freeze_mk mapS del_cons del_nil keepS_cons keepS_nil keepL_cons keepL_nil memb_cons memb_nil unV pureV convV_i addrV toArgs anyRs hasSl2L fromRetL finR resL resV toRets one Nat.beq Nat.ble shiftV_shr shiftV_shl IntKind.bits fillV List.getElem?_cons_zero List.getElem?_cons_succ List.length_cons List.length_nil List.set_cons_zero List.set_cons_succ setR2 setR3 zrep_eqs binV_i binI_shl binI_shr binI_eqs binV_eqs binV_slcE binV_slcN lendsC_some lends_nil lends_eqs fl_lends lends_rf lendsR_some lends_rs lendsS_some seesAny_no callK1_fn callK2_some callK3_some recvPut_some afterK_some afterK_none putAll_nil putAll_cons hasSlLL_nil hasSlLL_cons recv_os recv_op recv_no recvV_some recv_tp recvT_os recvT_op srcV_rs srcR_some List.append_nil intV_quo intV_rem hasSlL mapR_eqs kill1_eqs frz1_eqs enterS_eqs enterL_eqs isRs_eqs toArg_eqs from1_eqs from_eqs toRet_eqs lentOf_eqs countR_eqs hasSl1_eqs hasSl2_eqs hasSl_eqs cellsOf_ag1 cellsOf_ag2 cellsOf_ag3 cellsOf_ag4 cellsOf_ag5 partV_2 partV_3 partV_4 partV_5 toRet_own ownR_of toArg_rs seenR_all seenR_part appS_rs appR_of srcV_sl srcV_z nilS_z bslS_some dec_t dec_f buildV_some bslV_some boxS_some root_mk ixSV_sl ixSV_rs ixAV_rf ixAV_el ixVV_ag fldV_ag lenV_sl lenV_rs lenV_z lenSV_s loadV_rf loadV_el loadR_some partV_none partV_all partV_some storeV_rf setR_one setR_all cellsOf_ag cellsOf_i cellsOf_b cellsOf_sl cellsOf_z cellsOf_er cellsOf_nl cellsOf_np cellsOf_s mkSV_of mkRS_of fl_map fl_kill fl_frz fl_enterS fl_enterL fl_lentOf fl_toArg fl_isRs fl_toRet fl_from1 fl_from fl_cells fl_countR nums_length nums_get nums_set nums_append nums_snoc nums_drop nums_take nums_zrep nums_hasSl bools_length bools_get bools_set bools_snoc bools_zrep bools_hasSl vecs_length vecs_get vecs_snoc slcV_sl idxO idx Nat.zero_add Nat.mul_one Nat.add_zero stepsAt_some onSome_some onB_true onB_false onG_tt onG_tf onG_ft onG_ff onG_un optPut_some optMem_some

/-- A vector of n numbers. -/
structure VB (q n : Int) (N : Nat) (L : List Int) : Prop where
  bad : vecBad q n L = 0
  len : L.length = N
section
variable {q n : Int} {N : Nat} {L M : List Int}
theorem VB.slv (h : VB q n N L) : slv .i64 L = .sl (nums .i64 L) N := by rw [← h.len]
theorem VB.mods (h : VB q n N L) : Mods q L := (vecBad_zero.1 h.bad).2.2.2
theorem VB.right (h : VB q n N L) : Right q := (vecBad_zero.1 h.bad).1
theorem VB.of (h : VB q n N L) (hl : M.length = N) (hm : Mods q M) : VB q n N M := by
  obtain ⟨h1, h2, h3, h4⟩ := vecBad_zero.1 h.bad
  exact ⟨vecBad_zero.2 ⟨h1, h2, by rw [hl, ← h.len, h3], hm⟩, hl⟩
theorem VB.conv (h : VB q n N L) : VB q n N (convL q L M) := h.of (by rw [convL_len, h.len]) (convL_mods (by have := h.right.lo; omega) _ _)
theorem VB.add (h : VB q n N L) : VB q n N (addL q L M) := h.of (by rw [addL_len, h.len]) (addL_mods (by have := h.right.lo; omega) _ _)
theorem cvN (h : VB q n N L) (h' : VB q n N M) : FF tab 32 [(.ag [.i .i64 (q), .i .i64 (n)]), .sl (nums .i64 L) N, .sl (nums .i64 M) N] = some ⟨.tp [.sl (nums .i64 (convL q L M)) N, .nl], []⟩ := by
  have := rConv q n (.mk .i64 L) (.mk .i64 M) h.bad h'.bad
  rw [h.slv, h'.slv, h.len] at this
  exact this
theorem adN (h : VB q n N L) (h' : VB q n N M) : FF tab 41 [(.ag [.i .i64 (q), .i .i64 (n)]), .sl (nums .i64 L) N, .sl (nums .i64 M) N] = some ⟨.tp [.sl (nums .i64 (addL q L M)) N, .nl], []⟩ := by
  have := rAdd q n (.mk .i64 L) (.mk .i64 M) h.bad h'.bad
  rw [h.slv, h'.slv] at this
  rw [← (h.add (M := M)).slv]
  exact this
theorem smN (hl : L.length = N) (hN : N ≤ 256) : FF tab 26 [.sl (nums .i64 L) N, .sl (nums .i64 L) N] = some ⟨.b true, []⟩ := by
  have := SameInts (.mk .i64 L) (.mk .i64 L) (by omega)
  simp only [slv, hl, decide_true] at this
  exact this
theorem mvN {q n : Int} {x : AV} (hv : valid q n = 0) (hx : IsL .i64 x L) (hs : (L.length : Int) ≤ 40) : FF tab 40 [(.ag [.i .i64 (q), .i .i64 (n)]), x] = some ⟨.os (nums .i64 (mkVec q n L)) n.toNat 1, []⟩ ∧ VB q n n.toNat (mkVec q n L) := by
  have := MakeVector q n hv hx (by omega)
  rw [mkVec_len] at this
  exact ⟨this, mkVec_bad L hv, mkVec_len q n L⟩
end

theorem first2 : FF tab 29 [] = some ⟨.b true, []⟩ := FF_of (n := 60) (by kernel_rfl)
set_option maxHeartbeats 4000000 in
theorem ConvRing (q0 : Int) (hq0 : inK .i64 q0) (n0 : Int) (hn0 : inK .i64 n0) (x : AV) (L : List Int) (hxN : IsNums .i64 x L) (y : AV) (M : List Int) (hyN : IsNums .i64 y M) (u : AV) (P : List Int) (hzN : IsNums .i64 u P) :
    FF tab 9 [.i .i64 q0, .i .i64 n0, x, y, u] = some ⟨.b true, []⟩ := by
  refine call_by (A := A9) rfl rfl ?_
  have hx := hxN.isL
  have hy := hyN.isL
  have hz := hzN.isL
  have fx := hx.flat
  have fy := hy.flat
  have fz := hz.flat
  have lx := lenV_isL hx
  have ly := lenV_isL hy
  have lz := lenV_isL hz
  have h1 := first2
  by_cases c1 : (L.length : Int) ≤ 40
  · by_cases c2 : (M.length : Int) ≤ 40
    · by_cases c3 : (P.length : Int) ≤ 40
      · have hR := MakeRing q0 n0 hq0 hn0
        have hv := mk_valid q0 n0
        have hq := mkQ_right (q := q0)
        have hd4 := mkN_four (n := n0)
        generalize mkQ q0 = q at *
        generalize mkN n0 = n at *
        obtain ⟨mA, vA⟩ := mvN hv hx c1
        obtain ⟨mB, vB⟩ := mvN hv hy c2
        obtain ⟨mC, vC⟩ := mvN hv hz c3
        obtain ⟨N, hN⟩ : ∃ N : Nat, (N : Int) = n := ⟨n.toNat, by omega⟩
        have tN : n.toNat = N := by omega
        rw [tN] at mA mB mC vA vB vC
        generalize mkVec q n L = A at *
        generalize mkVec q n M = B at *
        generalize mkVec q n P = C at *
        have qlo := hq.lo
        have q1 : 1 < q := by omega
        have q0' : 0 < q := by omega
        have hN4 : 4 ≤ N ∧ N ≤ 32 := by omega
        have hN2 : N % 2 = 0 := by omega
        have N0 : 0 < N := by omega
        have td : n.tdiv 2 = n / 2 := Int.tdiv_eq_ediv_of_nonneg (by omega)
        have wd : IntKind.i64.wrap (n / 2) = n / 2 := i64_in _ (by omega)
        have tH : (n / 2).toNat = N / 2 := by omega
        have bH : 0 ≤ n / 2 ∧ n / 2 < (N : Int) := by omega
        have vO : VB q n N (unit N 0 1) := vA.of (unit_len _ _ _) (unit_mods q1 N0 1 (by omega) q1)
        have vH : VB q n N (unit N (N / 2) 1) := vA.of (unit_len _ _ _) (unit_mods q1 (by omega) 1 (by omega) q1)
        have g1 := cvN vA vB
        have g2 := cvN vB vA
        rw [← convL_comm q0' vA.len vB.len N0] at g2
        have vAB := vA.conv (M := B)
        have g3 := cvN vAB vC
        have g4 := cvN vB vC
        have vBC := vB.conv (M := C)
        have g5 := cvN vA vBC
        rw [← convL_assoc q0' vA.len vB.len N0] at g5
        have g6 := adN vB vC
        have vS := vB.add (M := C)
        have g7 := cvN vA vS
        have g8 := cvN vA vC
        have vAC := vA.conv (M := C)
        have g9 := adN vAB vAC
        rw [← convL_add q0' vA.len vB.len N0] at g9
        have g10 := cvN vA vO
        rw [convL_one q1 vA.len N0 vA.mods] at g10
        have g11 := cvN vA vH
        have vT := vA.conv (M := unit N (N / 2) 1)
        have g12 := cvN vT vH
        have vM := vT.conv (M := unit N (N / 2) 1)
        have g13 := adN vM vA
        rw [convL_turn q1 vA.len (by omega) hN2] at g13
        have s1 := smN (N := N) (L := convL q A B) vAB.len (by omega)
        have s2 := smN (N := N) (L := convL q (convL q A B) C) vAB.conv.len (by omega)
        have s3 := smN (N := N) (L := convL q A (addL q B C)) vA.conv.len (by omega)
        have s4 := smN (N := N) (L := A) vA.len (by omega)
        have s5 := smN (N := N) (L := List.replicate N 0) (by simp) (by omega)
        have uO : (List.replicate N (0 : Int)).set 0 1 = unit N 0 1 := rfl
        have uH : (List.replicate N (0 : Int)).set (N / 2) 1 = unit N (N / 2) 1 := rfl
        have lO := vO.len
        have lH := vH.len
        have tO : (unit N 0 1).take N = unit N 0 1 := List.take_of_length_le (by omega)
        have tHh : (unit N (N / 2) 1).take N = unit N (N / 2) 1 := List.take_of_length_le (by omega)
        have kH : N / 2 < N := by omega
        have lAB := vAB.len
        clear hd4 hv vA vB vC vO vH vAB vBC vS vAC vT vM hN2 hq
        generalize convL q (convL q A (unit N (N / 2) 1)) (unit N (N / 2) 1) = MI at *
        generalize convL q A (unit N (N / 2) 1) = T at *
        generalize unit N (N / 2) 1 = U at *
        generalize unit N 0 1 = O at *
        generalize convL q A (addL q B C) = OV at *
        generalize addL q B C = SU at *
        generalize convL q A C = AC at *
        generalize convL q B C = BC at *
        generalize convL q (convL q A B) C = ABC at *
        generalize convL q A B = AB at *
        simp (disch := first | assumption | omega | (simp only [List.length_cons, List.length_nil, List.length_set, List.length_append, List.length_replicate, List.length_map, List.length_range, List.length_take, List.length_drop, nums_length, bools_length, vecs_length]; first | done | omega)) [A9, h1, lx, ly, lz, c1, c2, c3, hR, mA, mB, mC, g1, g2, g3, g4, g5, g6, g7, g8, g9, g10, g11, g12, g13, s1, s2, s3, s4, s5, hN, tN, td, wd, tH, uO, uH, tO, tHh]
      · simp (disch := first | assumption | omega | (simp only [List.length_cons, List.length_nil, List.length_set, List.length_append, List.length_replicate, List.length_map, List.length_range, List.length_take, List.length_drop, nums_length, bools_length, vecs_length]; first | done | omega)) [A9, h1, lx, ly, lz, c1, c2, c3]
    · simp (disch := first | assumption | omega | (simp only [List.length_cons, List.length_nil, List.length_set, List.length_append, List.length_replicate, List.length_map, List.length_range, List.length_take, List.length_drop, nums_length, bools_length, vecs_length]; first | done | omega)) [A9, h1, lx, ly, c1, c2]
  · simp (disch := first | assumption | omega | (simp only [List.length_cons, List.length_nil, List.length_set, List.length_append, List.length_replicate, List.length_map, List.length_range, List.length_take, List.length_drop, nums_length, bools_length, vecs_length]; first | done | omega)) [A9, h1, lx, c1]
end Zab.YtcebddjidpbhgaaDoorB
