/- The statements of chapter 5: sums. -/
import Derived.Test.YtohilcdmockfbaaDoorDSpo5
namespace Zab.YtohilcdmockfbaaDoorD
open Go
open Go.IntWalk (i64_in)
set_option maxRecDepth 100000
set_option linter.unusedSimpArgs false
set_option linter.unusedVariables false
attribute [-simp] getElem?_pos
attribute [local simp ↓] W_loop W_seq W_skip W_ret W_exit W_reg W_cond W_block W_pre cleanO_some freezes_nil freezes_cons frzO_some andThen_normal andThen_ret andThen_exit unblock_normal unblock_ret unblock_exit Ends_normal Ends_ret steps_nil steps_cons step_some st_move st_pick st_bin st_un st_conv st_addr sv_ixA sv_ixS sv_fld sv_ixV st_ixStr st_ext sv_build sv_bsl sv_mkS st_mkfn sv_lenS sv_len st_mn st_mx st_nilChk st_tas st_slc sv_ldg sv_loadg sv_load st_call sv_store sv_box sv_alloc sv_mkR sv_bslR sv_nilR sv_app sv_callK stepsAt_some onSome_some onB_true onB_false onG_tt onG_tf onG_ft onG_ff onG_un optPut_some optMem_some
attribute [local simp] evalO evalL constAV get_cons get_nil put_cons put_nil look_cons look_nil putD_some clean_mk freeze_mk mapS del_cons del_nil keepS_cons keepS_nil keepL_cons keepL_nil memb_cons memb_nil unV pureV convV_i addrV toArgs anyRs hasSl2L fromRetL finR resL resV toRets one Nat.beq Nat.ble shiftV_shr shiftV_shl IntKind.bits fillV List.getElem?_cons_zero List.getElem?_cons_succ List.length_cons List.length_nil List.set_cons_zero List.set_cons_succ setR2 setR3 zrep_eqs binV_i binI_shl binI_shr binI_eqs binV_eqs binV_slcE binV_slcN lendsC_some lends_nil lends_eqs fl_lends lends_rf lendsR_some lends_rs lendsS_some seesAny_no callK1_fn callK2_some callK3_some recvPut_some afterK_some afterK_none putAll_nil putAll_cons hasSlLL_nil hasSlLL_cons recv_os recv_op recv_no recvV_some recv_tp recvT_os recvT_op srcV_rs srcR_some List.append_nil intV_quo intV_rem hasSlL mapR_eqs kill1_eqs frz1_eqs enterS_eqs enterL_eqs isRs_eqs toArg_eqs from1_eqs from_eqs toRet_eqs lentOf_eqs countR_eqs hasSl1_eqs hasSl2_eqs hasSl_eqs cellsOf_ag1 cellsOf_ag2 cellsOf_ag3 cellsOf_ag4 cellsOf_ag5 partV_2 partV_3 partV_4 partV_5 toRet_own ownR_of toArg_rs seenR_all seenR_part appS_rs appR_of srcV_sl srcV_z nilS_z bslS_some dec_t dec_f buildV_some bslV_some boxS_some root_mk ixSV_sl ixSV_rs ixAV_rf ixAV_el ixVV_ag fldV_ag lenV_sl lenV_rs lenV_z lenSV_s loadV_rf loadV_el loadR_some partV_none partV_all partV_some storeV_rf setR_one setR_all cellsOf_ag cellsOf_i cellsOf_b cellsOf_sl cellsOf_z cellsOf_er cellsOf_nl cellsOf_np cellsOf_s mkSV_of mkRS_of fl_map fl_kill fl_frz fl_enterS fl_enterL fl_lentOf fl_toArg fl_isRs fl_toRet fl_from1 fl_from fl_cells fl_countR nums_length nums_get nums_set nums_append nums_snoc nums_drop nums_take nums_zrep nums_hasSl bools_length bools_get bools_set bools_snoc bools_zrep bools_hasSl vecs_length vecs_get vecs_snoc slcV_sl idxO idx Nat.zero_add Nat.mul_one Nat.add_zero stepsAt_some onSome_some onB_true onB_false onG_tt onG_tf onG_ft onG_ff onG_un optPut_some optMem_some
attribute [local simp] sees_nil sees_rf sees_i sees_sl sees_z sees_rs sees_fl

theorem src_isL {y : AV} {L : List Int} (h : IsL .u8 y L) (l : List (Nat × List AV)) (d : Nat) : srcV l 1 d y = some (nums .u8 L, L.length) := by
  rcases h with rfl | ⟨rfl, rfl⟩
  · exact srcV_sl (by rw [nums_length, Nat.mul_one])
  · rfl
theorem s128 (n : Int) {x : AV} {xs : List AV} {Ls : List (List Int)} (hv : IsV x xs Ls) (hB : ∀ L ∈ Ls, Bys L) (hm : xs.length < 9223372036854775807) :
    FF tab 14 [.i .i64 n, x] = some ⟨if n < 0 ∨ 1048576 < n then .tp [.z, .er 0] else .tp [.sl (nums .u8 (outL 168 (padS 168 31 (takeL 168 (zL 25, 0) Ls.flatten)) n.toNat)) n.toNat, .nl], []⟩ := by
  refine call_by (A := A14) rfl rfl ?_
  have fv := hv.flat
  have h := sAllV (R := 168) (by omega) (by omega) (X := 31) (by omega) (by omega) n hv hB hm
  rw [show ((168 : Nat) : Int) = 168 from rfl] at h
  generalize outL 168 (padS 168 31 (takeL 168 (zL 25, 0) Ls.flatten)) n.toNat = O at *
  by_cases hn : n < 0 ∨ 1048576 < n
  · rw [if_pos hn] at h ⊢
    clear hn
    simp (disch := first | assumption | omega | (simp only [List.length_cons, List.length_nil, List.length_set, List.length_append, List.length_replicate, List.length_map, List.length_range, List.length_take, List.length_drop, nums_length, bools_length, vecs_length]; first | done | omega)) [A14, h]
  · rw [if_neg hn] at h ⊢
    clear hn
    simp (disch := first | assumption | omega | (simp only [List.length_cons, List.length_nil, List.length_set, List.length_append, List.length_replicate, List.length_map, List.length_range, List.length_take, List.length_drop, nums_length, bools_length, vecs_length]; first | done | omega)) [A14, h]
theorem s256 (n : Int) {x : AV} {xs : List AV} {Ls : List (List Int)} (hv : IsV x xs Ls) (hB : ∀ L ∈ Ls, Bys L) (hm : xs.length < 9223372036854775807) :
    FF tab 15 [.i .i64 n, x] = some ⟨if n < 0 ∨ 1048576 < n then .tp [.z, .er 0] else .tp [.sl (nums .u8 (outL 136 (padS 136 31 (takeL 136 (zL 25, 0) Ls.flatten)) n.toNat)) n.toNat, .nl], []⟩ := by
  refine call_by (A := A15) rfl rfl ?_
  have fv := hv.flat
  have h := sAllV (R := 136) (by omega) (by omega) (X := 31) (by omega) (by omega) n hv hB hm
  rw [show ((136 : Nat) : Int) = 136 from rfl] at h
  generalize outL 136 (padS 136 31 (takeL 136 (zL 25, 0) Ls.flatten)) n.toNat = O at *
  by_cases hn : n < 0 ∨ 1048576 < n
  · rw [if_pos hn] at h ⊢
    clear hn
    simp (disch := first | assumption | omega | (simp only [List.length_cons, List.length_nil, List.length_set, List.length_append, List.length_replicate, List.length_map, List.length_range, List.length_take, List.length_drop, nums_length, bools_length, vecs_length]; first | done | omega)) [A15, h]
  · rw [if_neg hn] at h ⊢
    clear hn
    simp (disch := first | assumption | omega | (simp only [List.length_cons, List.length_nil, List.length_set, List.length_append, List.length_replicate, List.length_map, List.length_range, List.length_take, List.length_drop, nums_length, bools_length, vecs_length]; first | done | omega)) [A15, h]
theorem d128 {n : Int} (n0 : 0 ≤ n) (n1 : n ≤ 1048576) {x : AV} {xs : List AV} {Ls : List (List Int)} (hv : IsV x xs Ls) (hB : ∀ L ∈ Ls, Bys L) (hm : xs.length < 9223372036854775807) :
    FF tab 18 [.i .i64 n, x] = some ⟨.sl (nums .u8 (outL 168 (padS 168 31 (takeL 168 (zL 25, 0) Ls.flatten)) n.toNat)) n.toNat, []⟩ := by
  refine call_by (A := A18) rfl rfl ?_
  have fv := hv.flat
  have h := dSome (R := 168) (by omega) (by omega) (X := 31) (by omega) (by omega) n0 n1 hv hB hm
  rw [show ((168 : Nat) : Int) = 168 from rfl] at h
  generalize outL 168 (padS 168 31 (takeL 168 (zL 25, 0) Ls.flatten)) n.toNat = O at *
  simp (disch := first | assumption | omega | (simp only [List.length_cons, List.length_nil, List.length_set, List.length_append, List.length_replicate, List.length_map, List.length_range, List.length_take, List.length_drop, nums_length, bools_length, vecs_length]; first | done | omega)) [A18, h]
theorem d256 {n : Int} (n0 : 0 ≤ n) (n1 : n ≤ 1048576) {x : AV} {xs : List AV} {Ls : List (List Int)} (hv : IsV x xs Ls) (hB : ∀ L ∈ Ls, Bys L) (hm : xs.length < 9223372036854775807) :
    FF tab 19 [.i .i64 n, x] = some ⟨.sl (nums .u8 (outL 136 (padS 136 31 (takeL 136 (zL 25, 0) Ls.flatten)) n.toNat)) n.toNat, []⟩ := by
  refine call_by (A := A19) rfl rfl ?_
  have fv := hv.flat
  have h := dSome (R := 136) (by omega) (by omega) (X := 31) (by omega) (by omega) n0 n1 hv hB hm
  rw [show ((136 : Nat) : Int) = 136 from rfl] at h
  generalize outL 136 (padS 136 31 (takeL 136 (zL 25, 0) Ls.flatten)) n.toNat = O at *
  simp (disch := first | assumption | omega | (simp only [List.length_cons, List.length_nil, List.length_set, List.length_append, List.length_replicate, List.length_map, List.length_range, List.length_take, List.length_drop, nums_length, bools_length, vecs_length]; first | done | omega)) [A19, h]

theorem flat_len : ∀ (Ms : List (List Int)), (∀ L ∈ Ms, L.length ≤ 400) → Ms.flatten.length ≤ 400 * Ms.length := fun Ms => by
  induction Ms with
  | nil => intro _; simp
  | cons M Ms ih =>
    intro h
    have h2 := ih fun L hL => h L (List.mem_cons_of_mem _ hL)
    have h3 := h M (List.mem_cons_self ..)
    simp only [List.flatten_cons, List.length_append, List.length_cons]
    omega

set_option maxHeartbeats 8000000 in
theorem ShakeSums (x : AV) (xs : List AV) (Ls : List (List Int)) (hN : IsVecs .u8 x xs Ls) (n : Int) (hn : inK .i64 n) : FF tab 4 [x, .i .i64 n] = some ⟨.b true, []⟩ := by
  refine call_by (A := A4) rfl rfl ?_
  have hv : IsV x xs Ls := ⟨hN.1, hN.2.1, fun j h1 h2 => (hN.2.2 j h1 h2).isL⟩
  have fv := hv.flat
  have lv := hv.len
  have hx := hv.ls
  have h1 := first5
  by_cases c1 : (xs.length : Int) ≤ 6
  · have hend : ∀ (hall : ∀ j (h : j < Ls.length), Ls[j].length ≤ 400), (∀ L ∈ Ls, Bys L) ∧ Bys Ls.flatten := fun hall => by
      have hb1 : ∀ L ∈ Ls, Bys L := fun L hL => by
        obtain ⟨j, hj, rfl⟩ := List.getElem_of_mem hL
        exact ⟨(hN.2.2 j (by rw [hx.1]; exact hj) hj).2, by have := hall j hj; omega⟩
      refine ⟨hb1, ⟨fun y hy => ?_, ?_⟩⟩
      · obtain ⟨L, hL, hyL⟩ := List.mem_flatten.1 hy
        exact (hb1 L hL).byte y hyL
      · have h2 := flat_len Ls fun L hL => by
          obtain ⟨j, hj, rfl⟩ := List.getElem_of_mem hL
          exact hall j hj
        have := hx.1
        omega
    by_cases c3 : 600 < n
    · by_cases c4 : n ≤ 1048576
      · simp (disch := first | assumption | omega | (simp only [List.length_cons, List.length_nil, List.length_set, List.length_append, List.length_replicate, List.length_map, List.length_range, List.length_take, List.length_drop, nums_length, bools_length, vecs_length]; first | done | omega)) [A4, h1, lv, c1, c3, c4]
      · have c4' := c4
        simp (disch := first | assumption | omega | (simp only [List.length_cons, List.length_nil, List.length_set, List.length_append, List.length_replicate, List.length_map, List.length_range, List.length_take, List.length_drop, nums_length, bools_length, vecs_length]; first | done | omega)) [A4, h1, lv, c1, c3, c4]
        refine w_headsP xs.length (fun k => ⟨[(7, .i .i64 k), (6, .rs 6 0 (Ls.take k).flatten.length 1), (5, .b true), (1, .i .i64 n), (0, x)], [(6, nums .u8 (Ls.take k).flatten)]⟩) (fun k => ∀ j (h : j < Ls.length), j < k → Ls[j].length ≤ 400) (by simp (disch := first | assumption | omega | (simp only [List.length_cons, List.length_nil, List.length_set, List.length_append, List.length_replicate, List.length_map, List.length_range, List.length_take, List.length_drop, nums_length, bools_length, vecs_length]; first | done | omega)) [nums_nil]) (fun j h1 h => by omega) ?_ ?_
        · intro k hk hp
          have hkL : k < Ls.length := by rw [← hx.1]; exact hk
          have hl := hx.2 k hk hkL
          have hix := hv.ix hk
          have hget : xs[k]? = some xs[k] := List.getElem?_eq_getElem hk
          have w1 : IntKind.i64.wrap ((k : Int) + 1) = (k : Int) + 1 := i64_in _ (by omega)
          have hlt : (k : Int) < (xs.length : Int) := by omega
          have fx := hl.flat
          have lx := lenV_isL hl
          have hsrc := src_isL hl
          have hfl : (Ls.take k).flatten.length ≤ 2400 := by
            have h := flat_len (Ls.take k) fun L hL => by
              obtain ⟨j, hj, rfl⟩ := List.getElem_of_mem hL
              rw [List.length_take] at hj
              rw [List.getElem_take]
              exact hp j (by omega) (by omega)
            rw [List.length_take] at h
            omega
          have hnl := nums_length .u8 (Ls.take k).flatten
          have hs : (Ls.take (k + 1)).flatten = (Ls.take k).flatten ++ Ls[k] := by
            rw [List.take_succ_eq_append_getElem hkL, List.flatten_append]; simp
          have hnext : Ls[k].length ≤ 400 → ∀ j (h : j < Ls.length), j < k + 1 → Ls[j].length ≤ 400 := fun h0 j hj hlt => by
            by_cases e : j = k
            · subst e; exact h0
            · exact hp j hj (by omega)
          rw [hs]
          clear hp hs hl hend hx hv hN
          generalize (Ls.take k).flatten = F at *
          generalize Ls[k] = M at *
          generalize xs[k] = y at *
          generalize hT' : (k : Int) = T at *
          by_cases h4 : M.length ≤ 400
          · have h4' : (M.length : Int) ≤ 400 := by omega
            have hn := hnext h4
            simp (disch := first | assumption | omega | (simp only [List.length_cons, List.length_nil, List.length_set, List.length_append, List.length_replicate, List.length_map, List.length_range, List.length_take, List.length_drop, nums_length, bools_length, vecs_length]; first | done | omega)) [lv, hix, hget, lx, hsrc, h4', w1, hT', nums_append]
            exact hn
          · have h4' : ¬ (M.length : Int) ≤ 400 := by omega
            simp (disch := first | assumption | omega | (simp only [List.length_cons, List.length_nil, List.length_set, List.length_append, List.length_replicate, List.length_map, List.length_range, List.length_take, List.length_drop, nums_length, bools_length, vecs_length]; first | done | omega)) [lv, hix, hget, lx, h4']
        · intro hp
          have e : Ls.take xs.length = Ls := by rw [hx.1]; exact List.take_length
          rw [e]
          obtain ⟨hB, hF⟩ := hend fun j hj => hp j hj (by rw [hx.1]; exact hj)
          have g1 := s128 n hv hB (by omega)
          have g2 := s256 n hv hB (by omega)
          have hIs := SeeIs (c := 101) (by simp [Code]) 101
          rw [show errV 101 = .er 0 from rfl] at hIs
          have htk : List.take Ls.flatten.length (nums .u8 Ls.flatten) = nums .u8 Ls.flatten := List.take_of_length_le (by rw [nums_length]; omega)
          have z0 : IntKind.i64.wrap 0 = 0 := rfl
          have hbad : n < 0 ∨ 1048576 < n := .inr (by omega)
          have b1 : 1048576 < n := by omega
          have b0 : ¬ n < 0 := by omega
          rw [if_pos hbad] at g1 g2
          clear hp hend hN hbad hF hB
          generalize nums .u8 Ls.flatten = F at *
          generalize Ls.flatten.length = m at *
          simp (disch := first | assumption | omega | (simp only [List.length_cons, List.length_nil, List.length_set, List.length_append, List.length_replicate, List.length_map, List.length_range, List.length_take, List.length_drop, nums_length, bools_length, vecs_length]; first | done | omega)) [lv, g1, g2, hIs, htk, z0, b1, b0]
    · have c3' := c3
      simp (disch := first | assumption | omega | (simp only [List.length_cons, List.length_nil, List.length_set, List.length_append, List.length_replicate, List.length_map, List.length_range, List.length_take, List.length_drop, nums_length, bools_length, vecs_length]; first | done | omega)) [A4, h1, lv, c1, c3]
      refine w_headsP xs.length (fun k => ⟨[(7, .i .i64 k), (6, .rs 6 0 (Ls.take k).flatten.length 1), (5, .b true), (1, .i .i64 n), (0, x)], [(6, nums .u8 (Ls.take k).flatten)]⟩) (fun k => ∀ j (h : j < Ls.length), j < k → Ls[j].length ≤ 400) (by simp (disch := first | assumption | omega | (simp only [List.length_cons, List.length_nil, List.length_set, List.length_append, List.length_replicate, List.length_map, List.length_range, List.length_take, List.length_drop, nums_length, bools_length, vecs_length]; first | done | omega)) [nums_nil]) (fun j h1 h => by omega) ?_ ?_
      · intro k hk hp
        have hkL : k < Ls.length := by rw [← hx.1]; exact hk
        have hl := hx.2 k hk hkL
        have hix := hv.ix hk
        have hget : xs[k]? = some xs[k] := List.getElem?_eq_getElem hk
        have w1 : IntKind.i64.wrap ((k : Int) + 1) = (k : Int) + 1 := i64_in _ (by omega)
        have hlt : (k : Int) < (xs.length : Int) := by omega
        have fx := hl.flat
        have lx := lenV_isL hl
        have hsrc := src_isL hl
        have hfl : (Ls.take k).flatten.length ≤ 2400 := by
          have h := flat_len (Ls.take k) fun L hL => by
            obtain ⟨j, hj, rfl⟩ := List.getElem_of_mem hL
            rw [List.length_take] at hj
            rw [List.getElem_take]
            exact hp j (by omega) (by omega)
          rw [List.length_take] at h
          omega
        have hnl := nums_length .u8 (Ls.take k).flatten
        have hs : (Ls.take (k + 1)).flatten = (Ls.take k).flatten ++ Ls[k] := by
          rw [List.take_succ_eq_append_getElem hkL, List.flatten_append]; simp
        have hnext : Ls[k].length ≤ 400 → ∀ j (h : j < Ls.length), j < k + 1 → Ls[j].length ≤ 400 := fun h0 j hj hlt => by
          by_cases e : j = k
          · subst e; exact h0
          · exact hp j hj (by omega)
        rw [hs]
        clear hp hs hl hend hx hv hN
        generalize (Ls.take k).flatten = F at *
        generalize Ls[k] = M at *
        generalize xs[k] = y at *
        generalize hT' : (k : Int) = T at *
        by_cases h4 : M.length ≤ 400
        · have h4' : (M.length : Int) ≤ 400 := by omega
          have hn := hnext h4
          simp (disch := first | assumption | omega | (simp only [List.length_cons, List.length_nil, List.length_set, List.length_append, List.length_replicate, List.length_map, List.length_range, List.length_take, List.length_drop, nums_length, bools_length, vecs_length]; first | done | omega)) [lv, hix, hget, lx, hsrc, h4', w1, hT', nums_append]
          exact hn
        · have h4' : ¬ (M.length : Int) ≤ 400 := by omega
          simp (disch := first | assumption | omega | (simp only [List.length_cons, List.length_nil, List.length_set, List.length_append, List.length_replicate, List.length_map, List.length_range, List.length_take, List.length_drop, nums_length, bools_length, vecs_length]; first | done | omega)) [lv, hix, hget, lx, h4']
      · intro hp
        have e : Ls.take xs.length = Ls := by rw [hx.1]; exact List.take_length
        rw [e]
        obtain ⟨hB, hF⟩ := hend fun j hj => hp j hj (by rw [hx.1]; exact hj)
        have g1 := s128 n hv hB (by omega)
        have g2 := s256 n hv hB (by omega)
        have hIs := SeeIs (c := 101) (by simp [Code]) 101
        rw [show errV 101 = .er 0 from rfl] at hIs
        have htk : List.take Ls.flatten.length (nums .u8 Ls.flatten) = nums .u8 Ls.flatten := List.take_of_length_le (by rw [nums_length]; omega)
        have z0 : IntKind.i64.wrap 0 = 0 := rfl
        by_cases hneg : n < 0
        · have hbad : n < 0 ∨ 1048576 < n := .inl hneg
          rw [if_pos hbad] at g1 g2
          clear hp hend hN hbad hF hB
          generalize nums .u8 Ls.flatten = F at *
          generalize Ls.flatten.length = m at *
          simp (disch := first | assumption | omega | (simp only [List.length_cons, List.length_nil, List.length_set, List.length_append, List.length_replicate, List.length_map, List.length_range, List.length_take, List.length_drop, nums_length, bools_length, vecs_length]; first | done | omega)) [lv, g1, g2, hIs, htk, z0, hneg]
        · have hbad : ¬ (n < 0 ∨ 1048576 < n) := by omega
          rw [if_neg hbad] at g1 g2
          have n0 : 0 ≤ n := by omega
          have d1 := d128 n0 (by omega) hv hB (by omega)
          have d2 := d256 n0 (by omega) hv hB (by omega)
          have d3 := sSum256 (.mk .u8 Ls.flatten) hF
          have d4 := dSum256 (.mk .u8 Ls.flatten) hF
          have d5 := sSum512 (.mk .u8 Ls.flatten) hF
          have d6 := dSum512 (.mk .u8 Ls.flatten) hF
          simp only [slv] at d3 d4 d5 d6
          have l1 := outL_len 168 (padS 168 31 (takeL 168 (zL 25, 0) Ls.flatten)) n.toNat
          have l2 := outL_len 136 (padS 136 31 (takeL 136 (zL 25, 0) Ls.flatten)) n.toNat
          have l3 := outL_len 136 (padS 136 6 (takeL 136 (zL 25, 0) Ls.flatten)) 32
          have l4 := outL_len 72 (padS 72 6 (takeL 72 (zL 25, 0) Ls.flatten)) 64
          generalize outL 168 (padS 168 31 (takeL 168 (zL 25, 0) Ls.flatten)) n.toNat = O1 at *
          generalize outL 136 (padS 136 31 (takeL 136 (zL 25, 0) Ls.flatten)) n.toNat = O2 at *
          generalize outL 136 (padS 136 6 (takeL 136 (zL 25, 0) Ls.flatten)) 32 = O3 at *
          generalize outL 72 (padS 72 6 (takeL 72 (zL 25, 0) Ls.flatten)) 64 = O4 at *
          have e1 := SameBytes (.mk .u8 O1) (.mk .u8 O1) (by omega)
          have e2 := SameBytes (.mk .u8 O2) (.mk .u8 O2) (by omega)
          have e3 := SameBytes (.mk .u8 O3) (.mk .u8 O3) (by omega)
          have e4 := SameBytes (.mk .u8 O4) (.mk .u8 O4) (by omega)
          simp only [slv, l1, l2, l3, l4, decide_true] at e1 e2 e3 e4
          have a1 : ¬ n < 0 := by omega
          have a2 : ¬ 1048576 < n := by omega
          clear hp hend hN hbad hF hB hIs
          generalize nums .u8 Ls.flatten = F at *
          generalize Ls.flatten.length = m at *
          simp (disch := first | assumption | omega | (simp only [List.length_cons, List.length_nil, List.length_set, List.length_append, List.length_replicate, List.length_map, List.length_range, List.length_take, List.length_drop, nums_length, bools_length, vecs_length]; first | done | omega)) [lv, g1, g2, d1, d2, d3, d4, d5, d6, e1, e2, e3, e4, htk, a1, a2]
  · simp (disch := first | assumption | omega | (simp only [List.length_cons, List.length_nil, List.length_set, List.length_append, List.length_replicate, List.length_map, List.length_range, List.length_take, List.length_drop, nums_length, bools_length, vecs_length]; first | done | omega)) [A4, h1, lv, c1]
end Zab.YtohilcdmockfbaaDoorD
