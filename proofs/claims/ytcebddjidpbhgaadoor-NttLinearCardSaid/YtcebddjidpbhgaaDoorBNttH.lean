/- The statements of chapter 3: the great rings; sums; back and products. -/
import Derived.Test.YtcebddjidpbhgaaDoorBNttG
import Derived.Test.YtcebddjidpbhgaaDoorBNttL
import Derived.Test.YtcebddjidpbhgaaDoorBConvR
namespace Zab.YtcebddjidpbhgaaDoorB
open Go
open Go.IntWalk (i64_in)
set_option maxRecDepth 100000
set_option linter.unusedSimpArgs false
set_option linter.unusedVariables false
attribute [-simp] getElem?_pos
attribute [local simp ↓] W_loop W_seq W_skip W_ret W_exit W_reg W_cond W_block W_pre cleanO_some freezes_nil freezes_cons frzO_some andThen_normal andThen_ret andThen_exit unblock_normal unblock_ret unblock_exit Ends_normal Ends_ret steps_nil steps_cons step_some st_move st_pick st_bin st_un st_conv st_addr sv_ixA sv_ixS sv_fld sv_ixV st_ixStr st_ext sv_build sv_bsl sv_mkS st_mkfn sv_lenS sv_len st_mn st_mx st_nilChk st_tas st_slc sv_loadg sv_load st_call sv_store sv_box sv_alloc sv_mkR sv_bslR sv_nilR sv_app sv_callK stepsAt_some onSome_some onB_true onB_false onG_tt onG_tf onG_ft onG_ff onG_un optPut_some optMem_some
attribute [local simp] evalO evalL constAV get_cons get_nil put_cons put_nil look_cons look_nil putD_some clean_mk freeze_mk mapS del_cons del_nil keepS_cons keepS_nil keepL_cons keepL_nil memb_cons memb_nil unV pureV convV_i addrV toArgs anyRs hasSl2L fromRetL finR resL resV toRets one Nat.beq Nat.ble shiftV_shr shiftV_shl IntKind.bits fillV List.getElem?_cons_zero List.getElem?_cons_succ List.length_cons List.length_nil List.set_cons_zero List.set_cons_succ setR2 setR3 zrep_eqs binV_i binI_shl binI_shr binI_eqs binV_eqs binV_slcE binV_slcN lendsC_some lends_nil lends_eqs fl_lends lends_rf lendsR_some lends_rs lendsS_some seesAny_no callK1_fn callK2_some callK3_some recvPut_some afterK_some afterK_none putAll_nil putAll_cons hasSlLL_nil hasSlLL_cons recv_os recv_op recv_no recvV_some recv_tp recvT_os recvT_op srcV_rs srcR_some List.append_nil intV_quo intV_rem hasSlL mapR_eqs kill1_eqs frz1_eqs enterS_eqs enterL_eqs isRs_eqs toArg_eqs from1_eqs from_eqs toRet_eqs lentOf_eqs countR_eqs hasSl1_eqs hasSl2_eqs hasSl_eqs cellsOf_ag1 cellsOf_ag2 cellsOf_ag3 cellsOf_ag4 cellsOf_ag5 partV_2 partV_3 partV_4 partV_5 toRet_own ownR_of toArg_rs seenR_all seenR_part appS_rs appR_of srcV_sl srcV_z nilS_z bslS_some dec_t dec_f buildV_some bslV_some boxS_some root_mk ixSV_sl ixSV_rs ixAV_rf ixAV_el ixVV_ag fldV_ag lenV_sl lenV_rs lenV_z lenSV_s loadV_rf loadV_el loadR_some partV_none partV_all partV_some storeV_rf setR_one setR_all cellsOf_ag cellsOf_i cellsOf_b cellsOf_sl cellsOf_z cellsOf_er cellsOf_nl cellsOf_np cellsOf_s mkSV_of mkRS_of fl_map fl_kill fl_frz fl_enterS fl_enterL fl_lentOf fl_toArg fl_isRs fl_toRet fl_from1 fl_from fl_cells fl_countR nums_length nums_get nums_set nums_append nums_snoc nums_drop nums_take nums_zrep nums_hasSl bools_length bools_get bools_set bools_snoc bools_zrep bools_hasSl vecs_length vecs_get vecs_snoc slcV_sl idxO idx Nat.zero_add Nat.mul_one Nat.add_zero stepsAt_some onSome_some onB_true onB_false onG_tt onG_tf onG_ft onG_ff onG_un optPut_some optMem_some

theorem first3 : FF tab 35 [] = some ⟨.b true, []⟩ := FF_of (n := 60) (by kernel_rfl)
section
variable {q n : Int} {N : Nat} {L M : List Int}
theorem VB.deg (h : VB q n N L) : Deg n ∧ n.toNat = N := by
  obtain ⟨_, h2, h3, _⟩ := vecBad_zero.1 h.bad
  have := h.len
  exact ⟨h2, by omega⟩
theorem VB.to (h : VB q n N L) : VB q n N (toL q n L) := h.of (by rw [toL_len h.right h.deg.1, h.deg.2]) (toL_mods h.right h.deg.1 L)
theorem VB.from (h : VB q n N L) : VB q n N (fromL q n L) := h.of (by rw [fromL_len h.right h.deg.1, h.deg.2]) (fromL_mods h.right h.deg.1 L)
theorem toN (h : VB q n N L) : FF tab 56 [(.ag [.i .i64 (q), .i .i64 (n)]), .sl (nums .i64 L) N] = some ⟨.tp [.os (nums .i64 (toL q n L)) N 1, .nl], []⟩ := by
  have := nTo q n (.mk .i64 L) h.bad
  rw [h.slv, h.len] at this
  exact this
theorem frN (h : VB q n N L) : FF tab 58 [(.ag [.i .i64 (q), .i .i64 (n)]), .sl (nums .i64 L) N] = some ⟨.tp [.sl (nums .i64 (fromL q n L)) N, .nl], []⟩ := by
  have := nFrom q n (.mk .i64 L) h.bad
  rw [h.slv, h.len] at this
  exact this
theorem tiN (h : VB q n N L) (h' : VB q n N M) : FF tab 61 [(.ag [.i .i64 (q), .i .i64 (n)]), .sl (nums .i64 L) N, .sl (nums .i64 M) N] = some ⟨.tp [.os (nums .i64 (timesL q n L M)) N 1, .nl], []⟩ := by
  have := nTimes q n (.mk .i64 L) (.mk .i64 M) h.bad h'.bad
  rw [h.slv, h'.slv, h.len] at this
  exact this
theorem scN (h : VB q n N L) (k : Int) : FF tab 46 [(.ag [.i .i64 (q), .i .i64 (n)]), .sl (nums .i64 L) N, .i .i64 k] = some ⟨.tp [.os (nums .i64 (L.map fun a => a * (k % q) % q)) N 1, .nl], []⟩ := by
  have := rScale q n (.mk .i64 L) h.bad k
  rw [h.slv, h.len] at this
  exact this
theorem VB.scale (h : VB q n N L) (k : Int) : VB q n N (L.map fun a => a * k % q) := h.of (by simp [h.len]) (by
  intro x hx
  obtain ⟨y, _, rfl⟩ := List.mem_map.1 hx
  have := h.right.lo
  exact ⟨Int.emod_nonneg _ (by omega), Int.emod_lt_of_pos _ (by omega)⟩)
end

set_option maxHeartbeats 8000000 in
theorem NttGreat (b : Bool) (x : AV) (L : List Int) (hxN : IsNums .i64 x L) : FF tab 15 [.b b, x] = some ⟨.b true, []⟩ := by
  refine call_by (A := A15) rfl rfl ?_
  have hx := hxN.isL
  have fx := hx.flat
  have lx := lenV_isL hx
  have h1 := first3
  by_cases b1 : (L.length : Int) ≤ 300
  · have hall : ∀ q : Int, valid q 256 = 0 → ∃ A T F, FF tab 40 [(.ag [.i .i64 (q), .i .i64 (256)]), x] = some ⟨.os (nums .i64 A) 256 1, []⟩ ∧ A.length = 256 ∧ T.length = 256 ∧ F.length = 256 ∧
        FF tab 56 [(.ag [.i .i64 (q), .i .i64 (256)]), .sl (nums .i64 A) 256] = some ⟨.tp [.os (nums .i64 T) 256 1, .nl], []⟩ ∧
        FF tab 58 [(.ag [.i .i64 (q), .i .i64 (256)]), .sl (nums .i64 A) 256] = some ⟨.tp [.sl (nums .i64 F) 256, .nl], []⟩ ∧
        FF tab 59 [(.ag [.i .i64 (q), .i .i64 (256)]), .sl (nums .i64 A) 256] = some ⟨.os (nums .i64 T) 256 1, []⟩ ∧
        FF tab 60 [(.ag [.i .i64 (q), .i .i64 (256)]), .sl (nums .i64 A) 256] = some ⟨.os (nums .i64 F) 256 1, []⟩ := fun q hv => by
      have m := MakeVector q 256 hv hx (by omega)
      have vA : VB q 256 256 (mkVec q 256 L) := ⟨mkVec_bad L hv, mkVec_len q 256 L⟩
      rw [mkVec_len] at m
      have t3 := fTo q 256 (.mk .i64 (mkVec q 256 L)) vA.bad
      have t4 := fFrom q 256 (.mk .i64 (mkVec q 256 L)) vA.bad
      rw [vA.slv, vA.len] at t3 t4
      exact ⟨_, _, _, m, vA.len, vA.to.len, vA.from.len, toN vA, frN vA, t3, t4⟩
    cases b with
    | false =>
      obtain ⟨A, T, F, m, lA, lT, lF, t1, t2, t3, t4⟩ := hall 3329 (by decide)
      have s1 := smN (N := 256) lT (by omega)
      have s2 := smN (N := 256) lF (by omega)
      clear hall
      simp (disch := first | assumption | omega | (simp only [List.length_cons, List.length_nil, List.length_set, List.length_append, List.length_replicate, List.length_map, List.length_range, List.length_take, List.length_drop, nums_length, bools_length, vecs_length]; first | done | omega)) [A15, h1, lx, b1, m, t1, t2, t3, t4, s1, s2]
    | true =>
      obtain ⟨A, T, F, m, lA, lT, lF, t1, t2, t3, t4⟩ := hall 8380417 (by decide)
      have s1 := smN (N := 256) lT (by omega)
      have s2 := smN (N := 256) lF (by omega)
      clear hall
      simp (disch := first | assumption | omega | (simp only [List.length_cons, List.length_nil, List.length_set, List.length_append, List.length_replicate, List.length_map, List.length_range, List.length_take, List.length_drop, nums_length, bools_length, vecs_length]; first | done | omega)) [A15, h1, lx, b1, m, t1, t2, t3, t4, s1, s2]
  · simp (disch := first | assumption | omega | (simp only [List.length_cons, List.length_nil, List.length_set, List.length_append, List.length_replicate, List.length_map, List.length_range, List.length_take, List.length_drop, nums_length, bools_length, vecs_length]; first | done | omega)) [A15, h1, lx, b1]

set_option maxHeartbeats 8000000 in
theorem NttBack (q0 : Int) (hq0 : inK .i64 q0) (n0 : Int) (hn0 : inK .i64 n0) (x : AV) (L : List Int) (hxN : IsNums .i64 x L) (y : AV) (M : List Int) (hyN : IsNums .i64 y M) : FF tab 17 [.i .i64 q0, .i .i64 n0, x, y] = some ⟨.b true, []⟩ := by
  refine call_by (A := A17) rfl rfl ?_
  have hx := hxN.isL
  have hy := hyN.isL
  have fx := hx.flat
  have fy := hy.flat
  have lx := lenV_isL hx
  have ly := lenV_isL hy
  have h1 := first3
  by_cases c1 : (L.length : Int) ≤ 40
  · by_cases c2 : (M.length : Int) ≤ 40
    · have hR := MakeRing q0 n0 hq0 hn0
      have hv := mk_valid q0 n0
      have hd4 := mkN_four (n := n0)
      generalize mkQ q0 = q at *
      generalize mkN n0 = n at *
      obtain ⟨mA, vA⟩ := mvN hv hx c1
      obtain ⟨mB, vB⟩ := mvN hv hy c2
      obtain ⟨N, hN⟩ : ∃ N : Nat, (N : Int) = n := ⟨n.toNat, by omega⟩
      have tN : n.toNat = N := by omega
      rw [tN] at mA mB vA vB
      generalize mkVec q n L = A at *
      generalize mkVec q n M = B at *
      have hN4 : 4 ≤ N ∧ N ≤ 32 := by omega
      have hq := vA.right
      have hd := vA.deg.1
      have g1 := toN vA
      have g2 := toN vB
      have vTA := vA.to
      have vTB := vB.to
      have g3 := frN vTA
      rw [from_to hq hd (by rw [vA.len, tN]) vA.mods] at g3
      have g4 := frN vA
      have vFA := vA.from
      have g5 := toN vFA
      rw [to_from hq hd (by rw [vA.len, tN]) vA.mods] at g5
      have g6 := tiN vTA vTB
      rw [← toL_conv hq hd (by rw [vA.len, tN]) (by rw [vB.len, tN])] at g6
      have vC := vA.conv (M := B)
      have vTC := vC.to
      have g7 := frN vTC
      rw [from_to hq hd (by rw [vC.len, tN]) vC.mods] at g7
      have g8 := cvN vA vB
      have s1 := smN (N := N) vA.len (by omega)
      have s2 := smN (N := N) vC.len (by omega)
      have l1 := vA.len
      have l2 := vB.len
      have l3 := vTA.len
      have l4 := vTB.len
      have l5 := vFA.len
      have l6 := vC.len
      have l7 := vTC.len
      clear hd4 hv vA vB vTA vTB vFA vC vTC hq hd
      generalize toL q n (convL q A B) = TC at *
      generalize convL q A B = C at *
      generalize fromL q n A = FA at *
      generalize toL q n A = TA at *
      generalize toL q n B = TB at *
      simp (disch := first | assumption | omega | (simp only [List.length_cons, List.length_nil, List.length_set, List.length_append, List.length_replicate, List.length_map, List.length_range, List.length_take, List.length_drop, nums_length, bools_length, vecs_length]; first | done | omega)) [A17, h1, lx, ly, c1, c2, hR, mA, mB, g1, g2, g3, g4, g5, g6, g7, g8, s1, s2]
    · simp (disch := first | assumption | omega | (simp only [List.length_cons, List.length_nil, List.length_set, List.length_append, List.length_replicate, List.length_map, List.length_range, List.length_take, List.length_drop, nums_length, bools_length, vecs_length]; first | done | omega)) [A17, h1, lx, ly, c1, c2]
  · simp (disch := first | assumption | omega | (simp only [List.length_cons, List.length_nil, List.length_set, List.length_append, List.length_replicate, List.length_map, List.length_range, List.length_take, List.length_drop, nums_length, bools_length, vecs_length]; first | done | omega)) [A17, h1, lx, c1]

set_option maxHeartbeats 8000000 in
theorem NttLinear (q0 : Int) (hq0 : inK .i64 q0) (n0 : Int) (hn0 : inK .i64 n0) (x : AV) (L : List Int) (hxN : IsNums .i64 x L) (y : AV) (M : List Int) (hyN : IsNums .i64 y M) (k : Int) (hk : inK .i64 k) : FF tab 14 [.i .i64 q0, .i .i64 n0, x, y, .i .i64 k] = some ⟨.b true, []⟩ := by
  refine call_by (A := A14) rfl rfl ?_
  have hx := hxN.isL
  have hy := hyN.isL
  have fx := hx.flat
  have fy := hy.flat
  have lx := lenV_isL hx
  have ly := lenV_isL hy
  have h1 := first3
  by_cases c1 : (L.length : Int) ≤ 40
  · by_cases c2 : (M.length : Int) ≤ 40
    · have hR := MakeRing q0 n0 hq0 hn0
      have hv := mk_valid q0 n0
      have hd4 := mkN_four (n := n0)
      generalize mkQ q0 = q at *
      generalize mkN n0 = n at *
      obtain ⟨mA, vA⟩ := mvN hv hx c1
      obtain ⟨mB, vB⟩ := mvN hv hy c2
      obtain ⟨N, hN⟩ : ∃ N : Nat, (N : Int) = n := ⟨n.toNat, by omega⟩
      have tN : n.toNat = N := by omega
      rw [tN] at mA mB vA vB
      generalize mkVec q n L = A at *
      generalize mkVec q n M = B at *
      have hN4 : 4 ≤ N ∧ N ≤ 32 := by omega
      have N0 : 0 < N := by omega
      have hq := vA.right
      have hd := vA.deg.1
      have lo := hq.lo
      have hDp := nDepth hq hd
      obtain ⟨d1, d2, h3, h4, _⟩ := dep_ok hq hd
      have hm0 : 0 < mlen q n := h4
      have wD := u64_small (a := dep q n) (by omega)
      have hmn : n.toNat / 2 ^ dep q n = mlen q n := rfl
      have srD := shr_by (a := n.toNat) (d := dep q n) (by omega)
      rw [hmn, Int.toNat_of_nonneg (by omega)] at srD
      have vO : VB q n N (unit N 0 1) := vA.of (unit_len _ _ _) (unit_mods (by omega) N0 1 (by omega) (by omega))
      have hat : ∀ j, j < N → ni (toL q n (unit N 0 1)) j = if j % mlen q n = 0 then 1 else 0 := fun j hj => by
        have := toL_unit hq hd (p := j) (by omega)
        rwa [tN] at this
      have g1 := adN vA vB
      have vS := vA.add (M := B)
      have g2 := toN vA
      have g3 := toN vB
      have vTA := vA.to
      have vTB := vB.to
      have g4 := toN vS
      have g5 := adN vTA vTB
      have e5 : toL q n (addL q A B) = addL q (toL q n A) (toL q n B) := toL_add hq hd (by rw [vA.len, tN])
      rw [← e5] at g5
      have vK := vA.scale (k % q)
      have g6 := scN vA k
      have g7 := toN vK
      have g8 := scN vTA k
      rw [← toL_scale hq hd (by rw [vA.len, tN])] at g8
      have g9 := toN vO
      have s1 := smN (N := N) vS.to.len (by omega)
      have s2 := smN (N := N) vK.to.len (by omega)
      have uO : (List.replicate N (0 : Int)).set 0 1 = unit N 0 1 := rfl
      have lO := vO.len
      have tO : (unit N 0 1).take N = unit N 0 1 := List.take_of_length_le (by omega)
      have l1 := vA.len
      have l2 := vB.len
      have l3 := vTA.len
      have l4 := vTB.len
      have l5 := vS.len
      have l6 := vK.len
      have l7 := vS.to.len
      have l8 := vK.to.len
      have l9 := vO.to.len
      clear hd4 hv vA vB vTA vTB vS vK vO hd e5 h3 h4 hmn hq
      generalize toL q n (unit N 0 1) = O at *
      generalize unit N 0 1 = U at *
      generalize toL q n (addL q A B) = TS at *
      generalize addL q A B = S at *
      generalize toL q n (A.map fun a => a * (k % q) % q) = TK at *
      generalize (A.map fun a => a * (k % q) % q) = K at *
      generalize toL q n A = TA at *
      generalize toL q n B = TB at *
      generalize mlen q n = m at *
      generalize dep q n = D at *
      simp (disch := first | assumption | omega | (simp only [List.length_cons, List.length_nil, List.length_set, List.length_append, List.length_replicate, List.length_map, List.length_range, List.length_take, List.length_drop, nums_length, bools_length, vecs_length]; first | done | omega)) [A14, h1, lx, ly, c1, c2, hR, mA, mB, g1, g2, g3, g4, g5, g6, g7, g8, g9, uO, tO, hN, tN, hDp, wD, srD, -shiftV_shl, -shiftV_shr]
      clear g1 g2 g3 g4 g5 g6 g7 g8 g9 mA mB uO tO hDp wD srD hR h1 lx ly c1 c2 hx hy hxN hyN hq0 hn0 hk l1 l2 l3 l4 l5 l6 lO lo d1 d2
      refine w_heads N (fun i => ⟨[(35, .i .i64 i), (34, .i .i64 m), (32, .sl (nums .i64 O) N), (29, .sl (nums .i64 TK) N), (27, .sl (nums .i64 TK) N), (23, .sl (nums .i64 TS) N), (21, .sl (nums .i64 TS) N), (12, .rf 12 0), (11, .b true)], [(12, [.i .i64 q, .i .i64 n])]⟩) (by simp (disch := first | assumption | omega | (simp only [List.length_cons, List.length_nil, List.length_set, List.length_append, List.length_replicate, List.length_map, List.length_range, List.length_take, List.length_drop, nums_length, bools_length, vecs_length]; first | done | omega)) []) ?_ ?_
      · intro i hi
        have wi : IntKind.i64.wrap ((i : Int) + 1) = (i : Int) + 1 := i64_in _ (by omega)
        have hin : (i : Int) < n := by omega
        have hkn : (i : Int).toNat = i := Int.toNat_natCast _
        have hm1 : ¬ (m : Int) < 1 := by omega
        have hm2 : (m : Int) ≠ 0 := by omega
        have hgo := nums_get (k := .i64) (L := O) (j := i) (by omega)
        have htm : ((i : Int).tmod (m : Int)) = ((i % m : Nat) : Int) := by rw [Int.tmod_eq_emod_of_nonneg (by omega)]; rfl
        have hv := hat i hi
        by_cases h0 : i % m = 0
        · rw [if_pos h0] at hv
          rw [h0] at htm
          rw [hv] at hgo
          clear hat
          generalize hT : (i : Int) = T at *
          simp (disch := first | assumption | omega | (simp only [List.length_cons, List.length_nil, List.length_set, List.length_append, List.length_replicate, List.length_map, List.length_range, List.length_take, List.length_drop, nums_length, bools_length, vecs_length]; first | done | omega)) [hin, hkn, hm1, hm2, hgo, htm, wi, hT]
        · rw [if_neg h0] at hv
          rw [hv] at hgo
          have hnz : ¬ ((i % m : Nat) : Int) = 0 := by omega
          clear hat
          generalize ((i % m : Nat) : Int) = R at *
          generalize hT : (i : Int) = T at *
          simp (disch := first | assumption | omega | (simp only [List.length_cons, List.length_nil, List.length_set, List.length_append, List.length_replicate, List.length_map, List.length_range, List.length_take, List.length_drop, nums_length, bools_length, vecs_length]; first | done | omega)) [hin, hkn, hm1, hm2, hgo, htm, wi, hT, hnz]
      · simp (disch := first | assumption | omega | (simp only [List.length_cons, List.length_nil, List.length_set, List.length_append, List.length_replicate, List.length_map, List.length_range, List.length_take, List.length_drop, nums_length, bools_length, vecs_length]; first | done | omega)) [hN, s1, s2]
    · simp (disch := first | assumption | omega | (simp only [List.length_cons, List.length_nil, List.length_set, List.length_append, List.length_replicate, List.length_map, List.length_range, List.length_take, List.length_drop, nums_length, bools_length, vecs_length]; first | done | omega)) [A14, h1, lx, ly, c1, c2]
  · simp (disch := first | assumption | omega | (simp only [List.length_cons, List.length_nil, List.length_set, List.length_append, List.length_replicate, List.length_map, List.length_range, List.length_take, List.length_drop, nums_length, bools_length, vecs_length]; first | done | omega)) [A14, h1, lx, c1]
end Zab.YtcebddjidpbhgaaDoorB
