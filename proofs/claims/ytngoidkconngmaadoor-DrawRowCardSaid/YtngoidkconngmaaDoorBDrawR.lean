/- The law of the row: what is drawn hangs on the bytes alone. -/
import Derived.Test.YtngoidkconngmaaDoorBDrawL
import Derived.Test.YtngoidkconngmaaDoorBSpo4
import Derived.Test.YtngoidkconngmaaDoorBSpo6
namespace Zab.YtngoidkconngmaaDoorB
open Go
open Go.IntWalk (i64_in)
set_option maxRecDepth 100000
set_option linter.unusedSimpArgs false
set_option linter.unusedVariables false
attribute [-simp] getElem?_pos
attribute [local simp ↓] W_loop W_seq W_skip W_ret W_exit W_reg W_cond W_block W_pre cleanO_some freezes_nil freezes_cons frzO_some andThen_normal andThen_ret andThen_exit unblock_normal unblock_ret unblock_exit Ends_normal Ends_ret steps_nil steps_cons step_some st_move st_pick st_bin st_un st_conv st_addr sv_ixA sv_ixS sv_fld sv_ixV st_ixStr st_ext sv_build sv_bsl sv_mkS st_mkfn sv_lenS sv_len st_mn st_mx st_nilChk st_cap st_mki st_boxE st_buildQ sv_boxQ sv_allocQ sv_appN st_tas st_slc sv_ldE sv_ldg sv_loadg sv_load st_call sv_store sv_box sv_alloc sv_mkR sv_bslR sv_nilR sv_app sv_callK stepsAt_some onSome_some onB_true onB_false onG_tt onG_tf onG_ft onG_ff onG_un optPut_some optMem_some
attribute [local simp] evalO evalL constAV get_cons get_nil put_cons put_nil look_cons look_nil putD_some clean_mk freeze_mk mapS del_cons del_nil keepS_cons keepS_nil keepL_cons keepL_nil memb_cons memb_nil unV pureV convV_i addrV toArgs anyRs hasSl2L finR resL resV one shiftV_shr shiftV_shl IntKind.bits fillV List.getElem?_cons_zero List.getElem?_cons_succ List.length_cons List.length_nil List.set_cons_zero List.set_cons_succ setR2 setR3 zrep_eqs binV_i binI_shl binI_shr binI_eqs binV_eqs binV_slcE binV_slcN lends_nil seesAny_no callK1_fn callK2_some callK3_some recvPut_some hasSlLL_nil hasSlLL_cons recv_os recv_op recv_no recvV_some recv_tp srcV_rs srcR_some List.append_nil intV_quo intV_rem hasSlL mapR_eqs kill1_eqs frz1_eqs isRs_eqs toArg_eqs from1_eqs from_eqs toRet_eqs countR_eqs hasSl1_eqs hasSl2_eqs hasSl_eqs cellsOf_ag1 cellsOf_ag2 cellsOf_ag3 cellsOf_ag4 cellsOf_ag5 partV_2 partV_3 partV_4 partV_5 ownR_of seenR_all seenR_part appS_rs appR_of srcV_sl srcV_z nilS_z bslS_some dec_t dec_f buildV_some bslV_some boxS_some root_mk ixSV_sl ixSV_rs ixAV_rf ixAV_el ixVV_ag fldV_ag lenV_sl lenV_rs lenV_z lenSV_s loadV_rf loadV_el ldEV_el loadR_some partV_none partV_all partV_some storeV_rf setR_one setR_all cellsOf_ag cellsOf_i cellsOf_b cellsOf_sl cellsOf_z cellsOf_er cellsOf_nl cellsOf_np cellsOf_s mkSV_of mkRS_of fl_map fl_kill fl_frz fl_toArg fl_isRs fl_toRet fl_from1 fl_from fl_cells fl_countR nums_length nums_get nums_set nums_append nums_snoc nums_drop nums_take nums_zrep nums_hasSl bools_length bools_get bools_set bools_snoc bools_zrep bools_hasSl vecs_length vecs_get vecs_snoc slcV_sl idxO idx Nat.zero_add Nat.mul_one Nat.add_zero nbeq_dec nble_dec nblt_dec special_nil special_cons mapQ_nil mapQ_cons frzR_some fillQ boxEV_some buildQV_some allPlain_nil allPlain_cons plain_eqs flat_eqs cellQ_eqs loadQ_some partQ_none partQ_some partF_t partF_f allFlat_nil allFlat_cons allQ_nil allQ_cons fldV_aq cellsQ_ag cellsQ_aq cellsQ_eqs cellsOf_ie enterS_nil enterS_cons enterL_nil enterL_cons partsN_nil partsN_cons partRows_nil partRows_cons scatL_nil scatL_cons rowsL_nil rowsL_cons keys_nil keys_cons rootsP_nil rootsP_cons rootsIn_nil rootsIn_cons childP_nil childP_cons childIn_nil childIn_cons okEnter_nil okEnter_cons nodupB_nil nodupB_cons allRoot_nil allRoot_cons noRoots_nil noRoots_cons apart_nil apart_cons allCh_nil allCh_cons kindsOk_nil kindsOk_cons rootB_eq chB_eq isRef_eq child_eq partId_eq okFin_eq slotOf_eqs partN_eqs lentRows_eqs argRows_eqs scat1_eqs rows1_eqs rootsR_eqs rootsA_eqs childR_eqs childA_eqs isRs0_eqs anyRs0_nil anyRs0_cons viewR_look agV_some consV_some consO_some viewL_nil viewL_rs viewL_fl frzP_nil frzP_os frzP_fl from1_op tpV_some fromRetL_nil fromRetL_cons gathL_nil gathC_some gathL_eq gathF_some gathS_some gath1_rf gath1_rs gath1_eqs ownR_ch ownR_cut retQ_some retA_some retN_some retF_some toRet_rf toRets_nil retC_some toRets_cons lentF_some lentG_some lentQ_some lentC_some lentR_op lentR_oq lentA_op lentA_oq lentParts_nil lentParts_cons lentOf_nil lentOf_cons lentR_eqs lentA_eqs countR_nil hasSlC_eqs hasSlCL_nil hasSlCL_cons sees0_nil seesAny_nil namesNot_nil sees0_eqs seesAny_eqs namesNot_eqs sees0_no lendG_some lendF_some lendP_rf lend1_rf lendV_some lendP_rs lend1_rs lendT_some lendPL_nil lendPL_cons lends_eq lendA_nil lendA_cons lendN_some lendP_eqs lend1_eqs putRows_nil putRows_cons kills_nil kills_cons putRS_mk takeRows_nil takeRows_cons rootAt_mk nilsC_some nilsOf_nil nilsOf_cons nilsX_z rootQ_eq rootR_some boxQS_some appR_cut appNS_of recvD_some recvD_none callK4_some backL_nil backC_some backL_cons afterB_some afterK_nil afterK_cons stays_cons staysB_some stays_nil nums_hasSlC bools_hasSlC recv_seven recvR_some recv_oq recv_aq recv_fn recv_ag recv_sl recv_z recv_np recv_nl recv_er recv_ie recv_fl recvT3_some recvT2_some recvT_some take1_os take1_op take1_oq take1_aq take1_fn take1_eqs notTp_eqs fl_slot fl_argRows fl_partN fl_lentRows fl_scat fl_rows1 fl_lentA fl_lentR fl_rootsA fl_rootsR fl_childA fl_childR fl_lendP fl_lend1 fl_isRs0 fl_gath fl_cellQ fl_cellsQ fl_take1 fl_sees0 fl_seesAny fl_namesNot fl_plain List.map_cons List.map_nil List.isEmpty_nil List.isEmpty_cons stepsAt_some onSome_some onB_true onB_false onG_tt onG_tf onG_ft onG_ff onG_un optPut_some optMem_some

/-- As many as there are. -/
def wun (f : Nat → Int) : Nat → List Int
  | 0 => []
  | k + 1 => uni1 (uni1 (wun f k) (uX f k)) (uY f k)
theorem uni1_pre (O : List Int) (x : Int) : ∃ M, uni1 O x = O ++ M := by
  unfold uni1; split
  · exact ⟨_, rfl⟩
  · exact ⟨[], by simp⟩
theorem wun_pre (f : Nat → Int) (k : Nat) : ∀ d, ∃ M, wun f (k + d) = wun f k ++ M
  | 0 => ⟨[], by simp⟩
  | d + 1 => by
    obtain ⟨M, h⟩ := wun_pre f k d
    obtain ⟨M1, h1⟩ := uni1_pre (wun f (k + d)) (uX f (k + d))
    obtain ⟨M2, h2⟩ := uni1_pre (uni1 (wun f (k + d)) (uX f (k + d))) (uY f (k + d))
    refine ⟨M ++ (M1 ++ M2), ?_⟩
    show uni1 (uni1 (wun f (k + d)) (uX f (k + d))) (uY f (k + d)) = _
    rw [h2, h1, h]; simp
theorem wun_len (f : Nat → Int) : ∀ k, (wun f k).length ≤ 2 * k
  | 0 => Nat.le_refl _
  | k + 1 => by
    have h := wun_len f k
    have h1 := (uni1_len (wun f k) (uX f k)).2
    have h2 := (uni1_len (uni1 (wun f k) (uX f k)) (uY f k)).2
    have : (wun f (k + 1)).length = (uni1 (uni1 (wun f k) (uX f k)) (uY f k)).length := rfl
    omega
theorem prm_len (f : Nat → Int) : ∀ k, (prm f k).length ≤ k
  | 0 => Nat.le_refl _
  | k + 1 => by
    have h := prm_len f k
    have h1 := (prm1_len (prm f k) (pX f k)).2
    have : (prm f (k + 1)).length = (prm1 (prm f k) (pX f k)).length := rfl
    omega
theorem prm_pre (f : Nat → Int) (k : Nat) : ∀ d, ∃ M, prm f (k + d) = prm f k ++ M
  | 0 => ⟨[], by simp⟩
  | d + 1 => by
    obtain ⟨M, h⟩ := prm_pre f k d
    have : prm f (k + (d + 1)) = prm1 (prm f (k + d)) (pX f (k + d)) := rfl
    rw [this, h]
    unfold prm1; split
    · exact ⟨M ++ [pX f (k + d)], by simp⟩
    · exact ⟨M, rfl⟩
/-- Till there are enough, both are the same. -/
theorem wun_uni {f : Nat → Int} {N : Nat} (hlt : ∀ i, i < N → (uni f i).length < 256) : ∀ k, k ≤ N → uni f k = (wun f k).take 256
  | 0, _ => rfl
  | k + 1, h => by
    have ih := wun_uni hlt k (by omega)
    have hk := hlt k (by omega)
    have e : wun f k = uni f k := by
      rw [ih] at hk ⊢
      have : (wun f k).length < 256 := by rw [List.length_take] at hk; omega
      rw [List.take_of_length_le (by omega)]
    have e1 : uni f (k + 1) = uni2 (uni1 (uni f k) (uX f k)) (uY f k) := rfl
    have e2 : wun f (k + 1) = uni1 (uni1 (wun f k) (uX f k)) (uY f k) := rfl
    rw [e1, e2, e]
    have hl := (uni1_len (uni f k) (uX f k)).2
    generalize uni1 (uni f k) (uX f k) = O at *
    by_cases hy : uY f k < 3329
    · rw [uni1, if_pos hy, uni2]
      by_cases h2 : O.length < 256
      · rw [if_pos ⟨hy, h2⟩, List.take_of_length_le (by simp; omega)]
      · rw [if_neg (fun h => h2 h.2)]
        have : O.length = 256 := by omega
        rw [← this]; simp
    · rw [uni1, if_neg hy, uni2, if_neg (fun h => hy h.1), List.take_of_length_le (by omega)]
theorem wun_cut {f : Nat → Int} {N : Nat} (hN : (uni f N).length = 256) (hlt : ∀ i, i < N → (uni f i).length < 256) (m : Nat) : (wun f m).length < 256 ∨ (wun f m).take 256 = uni f N := by
  by_cases h : m < N
  · left
    have h1 := wun_uni hlt m (by omega)
    have h2 := hlt m h
    rw [h1, List.length_take] at h2
    omega
  · right
    have h1 := wun_uni hlt N (Nat.le_refl _)
    obtain ⟨M, h2⟩ := wun_pre f N (m - N)
    rw [show N + (m - N) = m by omega] at h2
    rw [h2, h1, List.take_append_of_le_length]
    rw [h1, List.length_take] at hN
    omega
theorem prm_cut {f : Nat → Int} {N : Nat} (hN : (prm f N).length = 256) (hlt : ∀ i, i < N → (prm f i).length < 256) (m : Nat) : (prm f m).length < 256 ∨ (prm f m).take 256 = prm f N := by
  by_cases h : m < N
  · exact .inl (hlt m h)
  · right
    obtain ⟨M, h2⟩ := prm_pre f N (m - N)
    rw [show N + (m - N) = m by omega] at h2
    rw [h2, ← hN]; simp

theorem seenR_cut {k : IntKind} {L : List Int} {h : Nat} (hh : h ≤ L.length) : seenR (some (nums k L)) 0 h 1 = some (.sl (nums k (L.take h)) h) := by
  have : Nat.ble (0 + h) (nums k L).length = true := by rw [Nat.ble_eq, nums_length]; omega
  simp only [seenR, Nat.mul_one, this, cond_true, List.drop_zero, nums_take]
set_option maxHeartbeats 16000000 in
theorem DrawRow (x : AV) (L : List Int) (hxN : IsNums .u8 x L) (i : Int) (hi : inK .u8 i) (j : Int) (hj : inK .u8 j) : FF tab 4 [x, .i .u8 i, .i .u8 j] = some ⟨.b true, []⟩ := by
  refine call_by (A := A4) rfl rfl ?_
  have hx := hxN.isL
  have fx := hx.flat
  have lx := lenV_isL hx
  by_cases hl : (60 : Int) < L.length
  · simp (disch := first | assumption | omega | (simp only [List.length_cons, List.length_nil, List.length_set, List.length_append, List.length_replicate, List.length_map, List.length_range, List.length_take, List.length_drop, nums_length, bools_length, vecs_length]; first | done | omega)) [A4, first9, lx, hl]
  · have i0 : 0 ≤ i := hi.1
    have i1 : i < 256 := by have : i ≤ 255 := hi.2; omega
    have j0 : 0 ≤ j := hj.1
    have j1 : j < 256 := by have : j ≤ 255 := hj.2; omega
    have hB : Bys L := ⟨hxN.2, by omega⟩
    have hin := app_in hxN.2 (two_in i0 i1 j0 j1).byte
    have hll : (L ++ [i, j]).length ≤ 102 := by simp only [List.length_append, List.length_cons, List.length_nil]; omega
    obtain ⟨N, n1, n2⟩ := uni_ends hin hll
    obtain ⟨M, m1, m2⟩ := prm_ends hin hll
    have h1 := pUniform hx hB (by omega) i0 i1 j0 j1 n1 n2
    have h3 := pPrime hx hB (by omega) i0 i1 j0 j1 m1 m2
    have hy : IsL .u8 (.sl (nums .u8 L) L.length) L := .inl rfl
    have h1' := pUniform hy hB (by omega) i0 i1 j0 j1 n1 n2
    have h3' := pPrime hy hB (by omega) i0 i1 j0 j1 m1 m2
    have hby := fBytes hx (by omega)
    have hd := d128 (n := 4000) (by omega) (by omega) (x := .sl [.sl (nums .u8 (L ++ [i, j])) (L.length + 1 + 1)] 1) (xs := [.sl (nums .u8 (L ++ [i, j])) (L.length + 1 + 1)]) (Ls := [L ++ [i, j]]) (IsV.one (.inl (by show _ = AV.sl _ _; simp))) (one_bys ⟨hin, by omega⟩) (by simp)
    have c1 := wun_cut n1 n2 1333
    have c2 := prm_cut m1 m2 1333
    have hwl := wun_len (stF 168 (L ++ [i, j]))
    have hpl := prm_len (stF 168 (L ++ [i, j]))
    have hfb : ∀ k, 0 ≤ stF 168 (L ++ [i, j]) k ∧ stF 168 (L ++ [i, j]) k < 256 := fun k => bt_in _ _ k
    have hbs : ∀ k, k < 4000 → ni (outL 168 (padS 168 31 (takeL 168 (zL 25, 0) [L ++ [i, j]].flatten)) 4000) k = stF 168 (L ++ [i, j]) k := by
      intro k hk
      rw [show outL 168 (padS 168 31 (takeL 168 (zL 25, 0) [L ++ [i, j]].flatten)) 4000 = bts 168 (padS 168 31 (takeL 168 (zL 25, 0) [L ++ [i, j]].flatten)) 0 4000 from bts_outL 168 _ 0 4000, bts_ni _ _ _ _ hk, Nat.zero_add]
      simp [stF]
    have hbl := outL_len 168 (padS 168 31 (takeL 168 (zL 25, 0) [L ++ [i, j]].flatten)) 4000
    rw [show (4000 : Int).toNat = 4000 from rfl] at hd
    generalize outL 168 (padS 168 31 (takeL 168 (zL 25, 0) [L ++ [i, j]].flatten)) 4000 = Bs at *
    generalize stF 168 (L ++ [i, j]) = f at *
    generalize hU : uni f N = U at *
    generalize hP : prm f M = P at *
    have hUi : IsL .i64 (.sl (nums .i64 U) 256) U := .inl (by show _ = AV.sl _ _; rw [n1])
    have hPi : IsL .i64 (.sl (nums .i64 P) 256) P := .inl (by show _ = AV.sl _ _; rw [m1])
    have s1 := SameInts hUi hUi (by omega)
    have s2 := SameInts hPi hPi (by omega)
    clear hU hP hB hin
    have w1 : IntKind.i64.wrap ((L.length : Int) + 1 + 1 - 2) = L.length := by rw [i64_in _ (by omega)]; omega
    have w2 : IntKind.i64.wrap ((L.length : Int) + 1) = (L.length : Int) + 1 := i64_in _ (by omega)
    have hs1 : slcV 1 (.rs 37 0 (L.length + 1 + 1) 1) none (some (.i .i64 (L.length : Int))) none = some (.rs 37 0 L.length 1) := slcV_rs0 rfl (by omega) (by omega)
    have g1 : (nums .u8 (L ++ [i, j]))[L.length]? = some (.i .u8 i) := by
      rw [nums_get (by simp), show ni (L ++ [i, j]) L.length = i by unfold ni; rw [List.getD_eq_getElem?_getD, List.getElem?_append_right (Nat.le_refl _), Nat.sub_self]; rfl]
    have g2 : (nums .u8 (L ++ [i, j]))[L.length + 1]? = some (.i .u8 j) := by
      rw [nums_get (by simp), show ni (L ++ [i, j]) (L.length + 1) = j by unfold ni; rw [List.getD_eq_getElem?_getD, List.getElem?_append_right (by omega), Nat.add_sub_cancel_left]; rfl]
    have tk : (L ++ [i, j]).take L.length = L := by simp
    have tn : (L.length : Int).toNat = L.length := Int.toNat_natCast _
    have tn1 : ((L.length : Int) + 1).toNat = L.length + 1 := by omega
    have hl2 : ((L.length : Int) + 1 + 1) * 1 ≤ 140737488355328 := by omega
    have tk2 : (L ++ [i, j]).take (L.length + 1 + 1) = L ++ [i, j] := List.take_of_length_le (by simp)
    simp (disch := first | assumption | omega | (simp only [List.length_cons, List.length_nil, List.length_set, List.length_append, List.length_replicate, List.length_map, List.length_range, List.length_take, List.length_drop, nums_length, bools_length, vecs_length]; first | done | omega)) [A4, first9, lx, hl, h1, h3, h1', h3', hby, hd, w1, w2, hs1, g1, g2, tk, tk2, tn, tn1]
    clear h1 h3 h1' h3' hby hd hs1 g1 g2 tk tk2
    obtain ⟨n, hn⟩ : ∃ n : Nat, n = 1333 := ⟨_, rfl⟩
    rw [← hn] at c1 c2
    refine w_heads n (fun m => ⟨[(17, .i .i64 ((3 * m : Nat) : Int)), (16, .rs 16 0 (prm f m).length 1), (15, .rs 15 0 (wun f m).length 1), (14, .sl (nums .u8 Bs) 4000), (13, .sl (nums .i64 P) 256), (12, .sl (nums .i64 U) 256), (9, .sl (nums .i64 P) 256), (8, .sl (nums .i64 U) 256), (7, .b true)], [(16, nums .i64 (prm f m)), (15, nums .i64 (wun f m))]⟩) (by simp (disch := first | assumption | omega | (simp only [List.length_cons, List.length_nil, List.length_set, List.length_append, List.length_replicate, List.length_map, List.length_range, List.length_take, List.length_drop, nums_length, bools_length, vecs_length]; first | done | omega)) [prm, wun, nums_nil]) ?_ ?_
    · intro m hm
      obtain ⟨u0, u1⟩ := hfb (3 * m)
      obtain ⟨v0, v1⟩ := hfb (3 * m + 1)
      obtain ⟨x0, x1⟩ := hfb (3 * m + 2)
      have gx0 := nums_get (k := .u8) (L := Bs) (j := 3 * m) (by omega)
      have gx1 := nums_get (k := .u8) (L := Bs) (j := 3 * m + 1) (by omega)
      have gx2 := nums_get (k := .u8) (L := Bs) (j := 3 * m + 2) (by omega)
      rw [hbs _ (by omega)] at gx0 gx1 gx2
      have e1 : wun f (m + 1) = uni1 (uni1 (wun f m) (uX f m)) (uY f m) := rfl
      have e2 : prm f (m + 1) = prm1 (prm f m) (pX f m) := rfl
      have hX : uX f m = f (3 * m) + 256 * (f (3 * m + 1) % 16) := rfl
      have hY : uY f m = f (3 * m + 1) / 16 + 16 * f (3 * m + 2) := rfl
      have hZ : pX f m = f (3 * m) + 256 * f (3 * m + 1) + 65536 * (f (3 * m + 2) % 128) := rfl
      have l1 := hwl m
      have l2 := hpl m
      rw [e1, e2, show 3 * (m + 1) = 3 * m + 3 by omega]
      generalize uX f m = X at *
      generalize uY f m = Y at *
      generalize pX f m = Z at *
      generalize wun f m = O at *
      generalize prm f m = Q at *
      generalize f (3 * m) = a at *
      generalize f (3 * m + 1) = b at *
      generalize f (3 * m + 2) = c at *
      have hK : 3 * m + 2 < 4000 := by omega
      generalize 3 * m = K at *
      have wa : IntKind.i64.wrap a = a := i64_in _ (by omega)
      have wb : IntKind.i64.wrap b = b := i64_in _ (by omega)
      have wc : IntKind.i64.wrap c = c := i64_in _ (by omega)
      have t1 : b.tmod 16 = b % 16 := Int.tmod_eq_emod_of_nonneg v0
      have t2 : b.tdiv 16 = b / 16 := Int.tdiv_eq_ediv_of_nonneg v0
      have t3 : c.tmod 128 = c % 128 := Int.tmod_eq_emod_of_nonneg x0
      have r1 : IntKind.i64.wrap (b % 16) = b % 16 := i64_in _ (by omega)
      have r2 : IntKind.i64.wrap (c % 128) = c % 128 := i64_in _ (by omega)
      have r3 : IntKind.u8.wrap (b / 16) = b / 16 := by show (b / 16) % 256 = b / 16; omega
      have q1 : IntKind.i64.wrap (256 * (b % 16)) = 256 * (b % 16) := i64_in _ (by omega)
      have q2 : IntKind.i64.wrap (a + 256 * (b % 16)) = X := by rw [hX]; exact i64_in _ (by omega)
      have q3 : IntKind.i64.wrap (b / 16) = b / 16 := i64_in _ (by omega)
      have q4 : IntKind.i64.wrap (16 * c) = 16 * c := i64_in _ (by omega)
      have q5 : IntKind.i64.wrap (b / 16 + 16 * c) = Y := by rw [hY]; exact i64_in _ (by omega)
      have p1 : IntKind.i64.wrap (256 * b) = 256 * b := i64_in _ (by omega)
      have p2 : IntKind.i64.wrap (a + 256 * b) = a + 256 * b := i64_in _ (by omega)
      have p3 : IntKind.i64.wrap (65536 * (c % 128)) = 65536 * (c % 128) := i64_in _ (by omega)
      have p4 : IntKind.i64.wrap (a + 256 * b + 65536 * (c % 128)) = Z := by rw [hZ]; exact i64_in _ (by omega)
      have tn0 : (K : Int).toNat = K := Int.toNat_natCast _
      have tn1 : ((K : Int) + 1).toNat = K + 1 := by omega
      have tn2 : ((K : Int) + 2).toNat = K + 2 := by omega
      have k1 : IntKind.i64.wrap ((K : Int) + 1) = (K : Int) + 1 := i64_in _ (by omega)
      have k2 : IntKind.i64.wrap ((K : Int) + 2) = (K : Int) + 2 := i64_in _ (by omega)
      have k3 : IntKind.i64.wrap ((K : Int) + 3) = (K : Int) + 3 := i64_in _ (by omega)
      have hK1 : (K : Int) + 2 < 4000 := by omega
      have hl1 := (uni1_len O X).2
      clear hX hY hZ e1 e2
      have b1 : ((O.length : Int) + 1) * 8 ≤ 140737488355328 := by omega
      have b2 : ((Q.length : Int) + 1) * 8 ≤ 140737488355328 := by omega
      simp (disch := first | assumption | omega | (simp only [List.length_cons, List.length_nil, List.length_set, List.length_append, List.length_replicate, List.length_map, List.length_range, List.length_take, List.length_drop, nums_length, bools_length, vecs_length]; first | done | omega)) [hK1, tn0, k2, -W_cond]
      simp only [W_cond]
      simp (disch := first | assumption | omega | (simp only [List.length_cons, List.length_nil, List.length_set, List.length_append, List.length_replicate, List.length_map, List.length_range, List.length_take, List.length_drop, nums_length, bools_length, vecs_length]; first | done | omega)) [hK1, gx0, gx1, gx2, tn0, tn1, tn2, k1, k2, k3, wa, wb, wc, t1, t2, t3, r1, r2, r3, q1, q2, q3, q4, q5, p1, p2, p3, p4, -W_cond]
      refine w_join (t := decide (X < 3329)) [20, 19, 17, 16, 15, 14, 13, 12, 9, 8, 7] [16, 15] ⟨[(20, .i .i64 Z), (19, .i .i64 Y), (17, .i .i64 (K : Int)), (16, .rs 16 0 Q.length 1), (15, .rs 15 0 (uni1 O X).length 1), (14, .sl (nums .u8 Bs) 4000), (13, .sl (nums .i64 P) 256), (12, .sl (nums .i64 U) 256), (9, .sl (nums .i64 P) 256), (8, .sl (nums .i64 U) 256), (7, .b true)], [(16, nums .i64 Q), (15, nums .i64 (uni1 O X))]⟩ rfl (fun hx => ?_) (fun hx => ?_) (fun S hS => ?_)
      · have e1 : uni1 O X = O ++ [X] := if_pos (of_decide_eq_true hx)
        rw [e1]
        simp (disch := first | assumption | omega | (simp only [List.length_cons, List.length_nil, List.length_set, List.length_append, List.length_replicate, List.length_map, List.length_range, List.length_take, List.length_drop, nums_length, bools_length, vecs_length]; first | done | omega)) []
      · have e1 : uni1 O X = O := if_neg (of_decide_eq_false hx)
        rw [e1]
        simp (disch := first | assumption | omega | (simp only [List.length_cons, List.length_nil, List.length_set, List.length_append, List.length_replicate, List.length_map, List.length_range, List.length_take, List.length_drop, nums_length, bools_length, vecs_length]; first | done | omega)) []
      generalize uni1 O X = O1 at *
      have b3 : ((O1.length : Int) + 1) * 8 ≤ 140737488355328 := by omega
      simp (disch := first | assumption | omega | (simp only [List.length_cons, List.length_nil, List.length_set, List.length_append, List.length_replicate, List.length_map, List.length_range, List.length_take, List.length_drop, nums_length, bools_length, vecs_length]; first | done | omega)) [hS, -W_cond]
      refine w_join (t := decide (Y < 3329)) [20, 17, 16, 15, 14, 13, 12, 9, 8, 7] [16, 15] ⟨[(20, .i .i64 Z), (17, .i .i64 (K : Int)), (16, .rs 16 0 Q.length 1), (15, .rs 15 0 (uni1 O1 Y).length 1), (14, .sl (nums .u8 Bs) 4000), (13, .sl (nums .i64 P) 256), (12, .sl (nums .i64 U) 256), (9, .sl (nums .i64 P) 256), (8, .sl (nums .i64 U) 256), (7, .b true)], [(16, nums .i64 Q), (15, nums .i64 (uni1 O1 Y))]⟩ rfl (fun hx => ?_) (fun hx => ?_) (fun S hS => ?_)
      · have e1 : uni1 O1 Y = O1 ++ [Y] := if_pos (of_decide_eq_true hx)
        rw [e1]
        simp (disch := first | assumption | omega | (simp only [List.length_cons, List.length_nil, List.length_set, List.length_append, List.length_replicate, List.length_map, List.length_range, List.length_take, List.length_drop, nums_length, bools_length, vecs_length]; first | done | omega)) []
      · have e1 : uni1 O1 Y = O1 := if_neg (of_decide_eq_false hx)
        rw [e1]
        simp (disch := first | assumption | omega | (simp only [List.length_cons, List.length_nil, List.length_set, List.length_append, List.length_replicate, List.length_map, List.length_range, List.length_take, List.length_drop, nums_length, bools_length, vecs_length]; first | done | omega)) []
      generalize uni1 O1 Y = O2 at *
      simp (disch := first | assumption | omega | (simp only [List.length_cons, List.length_nil, List.length_set, List.length_append, List.length_replicate, List.length_map, List.length_range, List.length_take, List.length_drop, nums_length, bools_length, vecs_length]; first | done | omega)) [hS, -W_cond]
      refine w_join (t := decide (Z < 8380417)) [17, 16, 15, 14, 13, 12, 9, 8, 7] [16, 15] ⟨[(17, .i .i64 (K : Int)), (16, .rs 16 0 (prm1 Q Z).length 1), (15, .rs 15 0 O2.length 1), (14, .sl (nums .u8 Bs) 4000), (13, .sl (nums .i64 P) 256), (12, .sl (nums .i64 U) 256), (9, .sl (nums .i64 P) 256), (8, .sl (nums .i64 U) 256), (7, .b true)], [(16, nums .i64 (prm1 Q Z)), (15, nums .i64 O2)]⟩ rfl (fun hx => ?_) (fun hx => ?_) (fun S hS => ?_)
      · have e1 : prm1 Q Z = Q ++ [Z] := if_pos (of_decide_eq_true hx)
        rw [e1]
        simp (disch := first | assumption | omega | (simp only [List.length_cons, List.length_nil, List.length_set, List.length_append, List.length_replicate, List.length_map, List.length_range, List.length_take, List.length_drop, nums_length, bools_length, vecs_length]; first | done | omega)) []
      · have e1 : prm1 Q Z = Q := if_neg (of_decide_eq_false hx)
        rw [e1]
        simp (disch := first | assumption | omega | (simp only [List.length_cons, List.length_nil, List.length_set, List.length_append, List.length_replicate, List.length_map, List.length_range, List.length_take, List.length_drop, nums_length, bools_length, vecs_length]; first | done | omega)) []
      generalize prm1 Q Z = Q1 at *
      simp (disch := first | assumption | omega | (simp only [List.length_cons, List.length_nil, List.length_set, List.length_append, List.length_replicate, List.length_map, List.length_range, List.length_take, List.length_drop, nums_length, bools_length, vecs_length]; first | done | omega)) [hS, k3]
    · have hwl' := hwl n
      have hpl' := hpl n
      generalize wun f n = W at *
      generalize prm f n = Q at *
      have hT : ((3 * n : Nat) : Int) = 3999 := by omega
      generalize ((3 * n : Nat) : Int) = T at *
      have k2 : IntKind.i64.wrap (T + 2) = T + 2 := i64_in _ (by omega)
      have k3 : ¬ T + 2 < 4000 := by omega
      clear hT
      by_cases h1 : W.length < 256 <;> by_cases h2 : Q.length < 256
      · have h1' : (W.length : Int) < 256 := by omega
        have h2' : (Q.length : Int) < 256 := by omega
        simp (disch := first | assumption | omega | (simp only [List.length_cons, List.length_nil, List.length_set, List.length_append, List.length_replicate, List.length_map, List.length_range, List.length_take, List.length_drop, nums_length, bools_length, vecs_length]; first | done | omega)) [k2, k3, h1', h2', s1, s2]
      · have h1' : (W.length : Int) < 256 := by omega
        have h2' : ¬ (Q.length : Int) < 256 := by omega
        have d2 : Q.take 256 = P := c2.resolve_left h2
        have zc2 := seenR_cut (k := .i64) (L := Q) (h := 256) (by omega)
        have z2 : slcV 1 (.rs 16 0 Q.length 1) none (some (.i .i64 256)) none = some (.rs 16 0 256 1) := slcV_rs0 rfl (by omega) (by omega)
        simp (disch := first | assumption | omega | (simp only [List.length_cons, List.length_nil, List.length_set, List.length_append, List.length_replicate, List.length_map, List.length_range, List.length_take, List.length_drop, nums_length, bools_length, vecs_length]; first | done | omega)) [k2, k3, h1', h2', s1, s2, d2, z2, zc2]
      · have h1' : ¬ (W.length : Int) < 256 := by omega
        have h2' : (Q.length : Int) < 256 := by omega
        have d1 : W.take 256 = U := c1.resolve_left h1
        have zc1 := seenR_cut (k := .i64) (L := W) (h := 256) (by omega)
        have z1 : slcV 1 (.rs 15 0 W.length 1) none (some (.i .i64 256)) none = some (.rs 15 0 256 1) := slcV_rs0 rfl (by omega) (by omega)
        simp (disch := first | assumption | omega | (simp only [List.length_cons, List.length_nil, List.length_set, List.length_append, List.length_replicate, List.length_map, List.length_range, List.length_take, List.length_drop, nums_length, bools_length, vecs_length]; first | done | omega)) [k2, k3, h1', h2', s1, s2, d1, z1, zc1]
      · have h1' : ¬ (W.length : Int) < 256 := by omega
        have h2' : ¬ (Q.length : Int) < 256 := by omega
        have d1 : W.take 256 = U := c1.resolve_left h1
        have zc1 := seenR_cut (k := .i64) (L := W) (h := 256) (by omega)
        have d2 : Q.take 256 = P := c2.resolve_left h2
        have zc2 := seenR_cut (k := .i64) (L := Q) (h := 256) (by omega)
        have z1 : slcV 1 (.rs 15 0 W.length 1) none (some (.i .i64 256)) none = some (.rs 15 0 256 1) := slcV_rs0 rfl (by omega) (by omega)
        have z2 : slcV 1 (.rs 16 0 Q.length 1) none (some (.i .i64 256)) none = some (.rs 16 0 256 1) := slcV_rs0 rfl (by omega) (by omega)
        simp (disch := first | assumption | omega | (simp only [List.length_cons, List.length_nil, List.length_set, List.length_append, List.length_replicate, List.length_map, List.length_range, List.length_take, List.length_drop, nums_length, bools_length, vecs_length]; first | done | omega)) [k2, k3, h1', h2', s1, s2, d1, d2, z1, z2, zc1, zc2]
end Zab.YtngoidkconngmaaDoorB
