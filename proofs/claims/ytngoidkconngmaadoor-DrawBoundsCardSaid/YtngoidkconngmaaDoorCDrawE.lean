/- The law of bounds: all that is drawn lies within them. -/
import Derived.Test.YtngoidkconngmaaDoorZabG8
import Derived.Test.YtngoidkconngmaaDoorCDrawN
import Derived.Test.YtngoidkconngmaaDoorCDrawO
namespace Zab.YtngoidkconngmaaDoorC
open Go
open Go.IntWalk (i64_in)
set_option maxRecDepth 100000
set_option linter.unusedSimpArgs false
set_option linter.unusedVariables false
attribute [-simp] getElem?_pos
attribute [local simp ↓] W_loop W_seq W_skip W_ret W_exit W_reg W_cond W_block W_pre cleanO_some freezes_nil freezes_cons frzO_some andThen_normal andThen_ret andThen_exit unblock_normal unblock_ret unblock_exit Ends_normal Ends_ret steps_nil steps_cons step_some st_move st_pick st_bin st_un st_conv st_addr sv_ixA sv_ixS sv_fld sv_ixV st_ixStr st_ext sv_build sv_bsl sv_mkS st_mkfn sv_lenS sv_len st_mn st_mx st_nilChk st_cap st_mki st_boxE st_buildQ sv_boxQ sv_allocQ sv_appN st_tas st_slc sv_ldE sv_ldg sv_loadg sv_load st_call sv_store sv_box sv_alloc sv_mkR sv_bslR sv_nilR sv_app sv_callK stepsAt_some onSome_some onB_true onB_false onG_tt onG_tf onG_ft onG_ff onG_un optPut_some optMem_some
attribute [local simp] evalO evalL constAV get_cons get_nil put_cons put_nil look_cons look_nil putD_some clean_mk freeze_mk mapS del_cons del_nil keepS_cons keepS_nil keepL_cons keepL_nil memb_cons memb_nil unV pureV convV_i addrV toArgs anyRs hasSl2L finR resL resV one shiftV_shr shiftV_shl IntKind.bits fillV List.getElem?_cons_zero List.getElem?_cons_succ List.length_cons List.length_nil List.set_cons_zero List.set_cons_succ setR2 setR3 zrep_eqs binV_i binI_shl binI_shr binI_eqs binV_eqs binV_slcE binV_slcN lends_nil seesAny_no callK1_fn callK2_some callK3_some recvPut_some hasSlLL_nil hasSlLL_cons recv_os recv_op recv_no recvV_some recv_tp srcV_rs srcR_some List.append_nil intV_quo intV_rem hasSlL mapR_eqs kill1_eqs frz1_eqs isRs_eqs toArg_eqs from1_eqs from_eqs toRet_eqs countR_eqs hasSl1_eqs hasSl2_eqs hasSl_eqs cellsOf_ag1 cellsOf_ag2 cellsOf_ag3 cellsOf_ag4 cellsOf_ag5 partV_2 partV_3 partV_4 partV_5 ownR_of seenR_all seenR_part appS_rs appR_of srcV_sl srcV_z nilS_z bslS_some dec_t dec_f buildV_some bslV_some boxS_some root_mk ixSV_sl ixSV_rs ixAV_rf ixAV_el ixVV_ag fldV_ag lenV_sl lenV_rs lenV_z lenSV_s loadV_rf loadV_el ldEV_el loadR_some partV_none partV_all partV_some storeV_rf setR_one setR_all cellsOf_ag cellsOf_i cellsOf_b cellsOf_sl cellsOf_z cellsOf_er cellsOf_nl cellsOf_np cellsOf_s mkSV_of mkRS_of fl_map fl_kill fl_frz fl_toArg fl_isRs fl_toRet fl_from1 fl_from fl_cells fl_countR nums_length nums_get nums_set nums_append nums_snoc nums_drop nums_take nums_zrep nums_hasSl bools_length bools_get bools_set bools_snoc bools_zrep bools_hasSl vecs_length vecs_get vecs_snoc slcV_sl idxO idx Nat.zero_add Nat.mul_one Nat.add_zero nbeq_dec nble_dec nblt_dec special_nil special_cons mapQ_nil mapQ_cons frzR_some fillQ boxEV_some buildQV_some allPlain_nil allPlain_cons plain_eqs flat_eqs cellQ_eqs loadQ_some partQ_none partQ_some partF_t partF_f allFlat_nil allFlat_cons allQ_nil allQ_cons fldV_aq cellsQ_ag cellsQ_aq cellsQ_eqs cellsOf_ie enterS_nil enterS_cons enterL_nil enterL_cons partsN_nil partsN_cons partRows_nil partRows_cons scatL_nil scatL_cons rowsL_nil rowsL_cons keys_nil keys_cons rootsP_nil rootsP_cons rootsIn_nil rootsIn_cons childP_nil childP_cons childIn_nil childIn_cons okEnter_nil okEnter_cons nodupB_nil nodupB_cons allRoot_nil allRoot_cons noRoots_nil noRoots_cons apart_nil apart_cons allCh_nil allCh_cons kindsOk_nil kindsOk_cons rootB_eq chB_eq isRef_eq child_eq partId_eq okFin_eq slotOf_eqs partN_eqs lentRows_eqs argRows_eqs scat1_eqs rows1_eqs rootsR_eqs rootsA_eqs childR_eqs childA_eqs isRs0_eqs anyRs0_nil anyRs0_cons viewR_look agV_some consV_some consO_some viewL_nil viewL_rs viewL_fl frzP_nil frzP_os frzP_fl from1_op tpV_some fromRetL_nil fromRetL_cons gathL_nil gathC_some gathL_eq gathF_some gathS_some gath1_rf gath1_rs gath1_eqs ownR_ch ownR_cut retQ_some retA_some retN_some retF_some toRet_rf toRets_nil retC_some toRets_cons lentF_some lentG_some lentQ_some lentC_some lentR_op lentR_oq lentA_op lentA_oq lentParts_nil lentParts_cons lentOf_nil lentOf_cons lentR_eqs lentA_eqs countR_nil hasSlC_eqs hasSlCL_nil hasSlCL_cons sees0_nil seesAny_nil namesNot_nil sees0_eqs seesAny_eqs namesNot_eqs sees0_no lendG_some lendF_some lendP_rf lend1_rf lendV_some lendP_rs lend1_rs lendT_some lendPL_nil lendPL_cons lends_eq lendA_nil lendA_cons lendN_some lendP_eqs lend1_eqs putRows_nil putRows_cons kills_nil kills_cons putRS_mk takeRows_nil takeRows_cons rootAt_mk nilsC_some nilsOf_nil nilsOf_cons nilsX_z rootQ_eq rootR_some boxQS_some appR_cut appNS_of recvD_some recvD_none callK4_some backL_nil backC_some backL_cons afterB_some afterK_nil afterK_cons stays_cons staysB_some stays_nil nums_hasSlC bools_hasSlC recv_seven recvR_some recv_oq recv_aq recv_fn recv_ag recv_sl recv_z recv_np recv_nl recv_er recv_ie recv_fl recvT3_some recvT2_some recvT_some take1_os take1_op take1_oq take1_aq take1_fn take1_eqs notTp_eqs fl_slot fl_argRows fl_partN fl_lentRows fl_scat fl_rows1 fl_lentA fl_lentR fl_rootsA fl_rootsR fl_childA fl_childR fl_lendP fl_lend1 fl_isRs0 fl_gath fl_cellQ fl_cellsQ fl_take1 fl_sees0 fl_seesAny fl_namesNot fl_plain List.map_cons List.map_nil List.isEmpty_nil List.isEmpty_cons stepsAt_some onSome_some onB_true onB_false onG_tt onG_tf onG_ft onG_ff onG_un optPut_some optMem_some

theorem ball_ends {L : List Int} (h : ∀ y ∈ L, inK .u8 y) (hl : L.length ≤ 102) (a : Nat) : ∃ p : Nat → Nat, ∀ m, IsJ (bt 136 (padS 136 31 (takeL 136 (zL 25, 0) L))) (a + m) (bq p m) (p m) :=
  ball_ex (fun q => zeros1 (X := 31) (by omega) (by omega) (bytes_in h) hl q) a
set_option maxHeartbeats 16000000 in
theorem DrawBounds (x : AV) (L : List Int) (hxN : IsNums .u8 x L) (a : Int) (ha : inK .i64 a) (c : Int) (hc : inK .i64 c) (b : Bool) : FF tab 12 [x, .i .i64 a, .i .i64 c, .b b] = some ⟨.b true, []⟩ := by
  have hx := hxN.isL
  have fx := hx.flat
  have lx := lenV_isL hx
  by_cases hl : (60 : Int) < L.length
  · refine call_by (A := A12) rfl rfl ?_
    simp (disch := first | assumption | omega | (simp only [List.length_cons, List.length_nil, List.length_set, List.length_append, List.length_replicate, List.length_map, List.length_range, List.length_take, List.length_drop, nums_length, bools_length, vecs_length]; first | done | omega)) [A12, first9, lx, hl]
  have hB : Bys L := ⟨hxN.2, by omega⟩
  have hN1 := Number a 64 (by omega) (by omega)
  have hN2 := Number c 65536 (by omega) (by omega)
  obtain ⟨T, hT⟩ : ∃ T : Nat, (T : Int) = a % 64 + 1 := ⟨(a % 64 + 1).toNat, by omega⟩
  have wT : IntKind.i64.wrap (a % 64 + 1) = (T : Int) := by rw [hT]; exact i64_in _ (by omega)
  have hT1 : 1 ≤ T := by omega
  have hT2 : T ≤ 64 := by omega
  generalize a % 64 = a64 at *
  have n0 : 0 ≤ c % 65536 := by omega
  have n1 : c % 65536 ≤ 65535 := by omega
  generalize c % 65536 = n at *
  have l0 := lo_in (n := n)
  have g0 := hi_in n0 n1
  have hin := app_in hxN.2 (two_in l0.1 l0.2 g0.1 g0.2).byte
  have hll : (L ++ [n % 256, n / 256]).length ≤ 102 := by simp only [List.length_append, List.length_cons, List.length_nil]; omega
  have hin2 := app_in hxN.2 (two_in (i := 1) (j := 2) (by omega) (by omega) (by omega) (by omega)).byte
  have hll2 : (L ++ [1, 2]).length ≤ 102 := by simp only [List.length_append, List.length_cons, List.length_nil]; omega
  obtain ⟨NU, u1, u2⟩ := uni_ends hin2 hll2
  obtain ⟨NP, p1, p2⟩ := prm_ends hin2 hll2
  obtain ⟨pj, hpj⟩ := ball_ends hxN.2 (by omega) (256 - T)
  have hU := pUniform hx hB (by omega) (i := 1) (j := 2) (by omega) (by omega) (by omega) (by omega) u1 u2
  have hP := pPrime hx hB (by omega) (i := 1) (j := 2) (by omega) (by omega) (by omega) (by omega) p1 p2
  have hBa := pBall hx hB hT1 hT2 rfl (p := pj) (fun m _ => hpj m)
  have fb : ∀ R S k, 0 ≤ bt R S k ∧ bt R S k < 256 := fun R S k => bt_in R S k
  have bU := uni_bound (f := stF 168 (L ++ [1, 2])) (fun k => fb _ _ k) NU
  have bP := prm_bound (f := stF 168 (L ++ [1, 2])) (fun k => fb _ _ k) NP
  obtain ⟨b1, b2, b3⟩ := bo_ok (f := bt 136 (padS 136 31 (takeL 136 (zL 25, 0) L))) (fun k => fb _ _ k) (sgn (bt 136 (padS 136 31 (takeL 136 (zL 25, 0) L))) 8) (tau := T) (by omega) (p := pj) T (Nat.le_refl _) (fun k _ => (hpj k).ok)
  have bl := bo_len (bt 136 (padS 136 31 (takeL 136 (zL 25, 0) L))) (sgn (bt 136 (padS 136 31 (takeL 136 (zL 25, 0) L))) 8) T pj T
  clear b2 hpj
  generalize bo (bt 136 (padS 136 31 (takeL 136 (zL 25, 0) L))) (sgn (bt 136 (padS 136 31 (takeL 136 (zL 25, 0) L))) 8) T pj T = B at *
  generalize uni (stF 168 (L ++ [1, 2])) NU = U at *
  generalize prm (stF 168 (L ++ [1, 2])) NP = P at *
  have hW := weight (x := .sl (nums .i64 B) 256) (L := B) (.inl (by show _ = AV.sl _ _; rw [bl])) (by omega)
  rw [bl, b3] at hW
  have wi : ∀ k : Nat, k < 256 → IntKind.i64.wrap ((k : Int) + 1) = (k : Int) + 1 := fun k hk => i64_in _ (by omega)
  have main : ∀ (e g : Int) (d : Nat) (b : Bool), (e = 2 ∧ g = 131072 ∧ d = 18 ∧ b = false) ∨ (e = 4 ∧ g = 524288 ∧ d = 20 ∧ b = true) → FF tab 12 [x, .i .i64 a, .i .i64 c, .b b] = some ⟨.b true, []⟩ := by
    intro e g d b hb
    have he : e = 2 ∨ e = 4 := by omega
    have hg : Gam g d := by unfold Gam; omega
    have h2g : ((2 ^ d : Nat) : Int) = 2 * g := by rcases hb with ⟨_, rfl, rfl, _⟩ | ⟨_, rfl, rfl, _⟩ <;> rfl
    obtain ⟨NS, s1, s2⟩ := sml_ends hin hll e
    have hS := pSmall hx hB he n0 n1 s1 s2
    have hM := pMask hg hx hB n0 n1
    have bS := sml_bound he (f := stF 136 (L ++ [n % 256, n / 256])) (fun k => fb _ _ k) NS
    have bM := sgnL_bound h2g (val (mskB d (L ++ [n % 256, n / 256]))) 256
    have lM := sgnL_len g d (val (mskB d (L ++ [n % 256, n / 256]))) 256
    clear s2
    generalize sml e (stF 136 (L ++ [n % 256, n / 256])) NS = S at *
    generalize sgnL g d (val (mskB d (L ++ [n % 256, n / 256]))) 256 = M at *
    refine call_by (A := A12) rfl rfl ?_
    clear hin hin2 hll hll2 fb
    rcases hb with ⟨rfl, rfl, rfl, rfl⟩ | ⟨rfl, rfl, rfl, rfl⟩
    · simp (disch := first | assumption | omega | (simp only [List.length_cons, List.length_nil, List.length_set, List.length_append, List.length_replicate, List.length_map, List.length_range, List.length_take, List.length_drop, nums_length, bools_length, vecs_length]; first | done | omega)) [A12, first9, lx, hl, hN1, hN2, wT, hS, hBa, hM, hU, hP]
      refine w_heads 256 (fun k => ⟨[(20, .i .i64 k), (19, .sl (nums .i64 P) 256), (18, .sl (nums .i64 U) 256), (16, .sl (nums .i64 M) 256), (14, .sl (nums .i64 B) 256), (12, .sl (nums .i64 S) 256), (11, .i .i64 131072), (10, .i .i64 2), (9, .b true), (1, .i .i64 T)], []⟩) (by simp (disch := first | assumption | omega | (simp only [List.length_cons, List.length_nil, List.length_set, List.length_append, List.length_replicate, List.length_map, List.length_range, List.length_take, List.length_drop, nums_length, bools_length, vecs_length]; first | done | omega)) []) ?_ ?_
      · intro k hk
        have hk2 : (k : Int) < 256 := by omega
        have tn : (k : Int).toNat = k := Int.toNat_natCast _
        have e1 := ni_in bS (j := k) (by omega)
        have e2 := ni_in b1 (j := k) (by omega)
        have e3 := ni_in bM (j := k) (by omega)
        have e4 := ni_in bU (j := k) (by omega)
        have e5 := ni_in bP (j := k) (by omega)
        have q1 := nums_get (k := .i64) (L := S) (j := k) (by omega)
        have q2 := nums_get (k := .i64) (L := B) (j := k) (by omega)
        have q3 := nums_get (k := .i64) (L := M) (j := k) (by omega)
        have q4 := nums_get (k := .i64) (L := U) (j := k) (by omega)
        have q5 := nums_get (k := .i64) (L := P) (j := k) (by omega)
        generalize ni S k = y1 at *
        generalize ni B k = y2 at *
        generalize ni M k = y3 at *
        generalize ni U k = y4 at *
        generalize ni P k = y5 at *
        have c1 : ¬ y1 < -2 := by omega
        have c2 : ¬ 2 < y1 := by omega
        have c3 : ¬ y2 < -1 := by omega
        have c4 : ¬ 1 < y2 := by omega
        have c5 : ¬ y3 ≤ -131072 := by omega
        have c6 : ¬ 131072 < y3 := by omega
        have c7 : ¬ y4 < 0 := by omega
        have c8 : ¬ 3329 ≤ y4 := by omega
        have c9 : ¬ y5 < 0 := by omega
        have c10 : ¬ 8380417 ≤ y5 := by omega
        simp (disch := first | assumption | omega | (simp only [List.length_cons, List.length_nil, List.length_set, List.length_append, List.length_replicate, List.length_map, List.length_range, List.length_take, List.length_drop, nums_length, bools_length, vecs_length]; first | done | omega)) [hk2, tn, wi k hk, q1, q2, q3, q4, q5, c1, c2, c3, c4, c5, c6, c7, c8, c9, c10, show IntKind.i64.wrap (-2) = -2 from rfl, show IntKind.i64.wrap (-131072) = -131072 from rfl]
      · simp (disch := first | assumption | omega | (simp only [List.length_cons, List.length_nil, List.length_set, List.length_append, List.length_replicate, List.length_map, List.length_range, List.length_take, List.length_drop, nums_length, bools_length, vecs_length]; first | done | omega)) [hW]
    · simp (disch := first | assumption | omega | (simp only [List.length_cons, List.length_nil, List.length_set, List.length_append, List.length_replicate, List.length_map, List.length_range, List.length_take, List.length_drop, nums_length, bools_length, vecs_length]; first | done | omega)) [A12, first9, lx, hl, hN1, hN2, wT, hS, hBa, hM, hU, hP]
      refine w_heads 256 (fun k => ⟨[(20, .i .i64 k), (19, .sl (nums .i64 P) 256), (18, .sl (nums .i64 U) 256), (16, .sl (nums .i64 M) 256), (14, .sl (nums .i64 B) 256), (12, .sl (nums .i64 S) 256), (11, .i .i64 524288), (10, .i .i64 4), (9, .b true), (1, .i .i64 T)], []⟩) (by simp (disch := first | assumption | omega | (simp only [List.length_cons, List.length_nil, List.length_set, List.length_append, List.length_replicate, List.length_map, List.length_range, List.length_take, List.length_drop, nums_length, bools_length, vecs_length]; first | done | omega)) []) ?_ ?_
      · intro k hk
        have hk2 : (k : Int) < 256 := by omega
        have tn : (k : Int).toNat = k := Int.toNat_natCast _
        have e1 := ni_in bS (j := k) (by omega)
        have e2 := ni_in b1 (j := k) (by omega)
        have e3 := ni_in bM (j := k) (by omega)
        have e4 := ni_in bU (j := k) (by omega)
        have e5 := ni_in bP (j := k) (by omega)
        have q1 := nums_get (k := .i64) (L := S) (j := k) (by omega)
        have q2 := nums_get (k := .i64) (L := B) (j := k) (by omega)
        have q3 := nums_get (k := .i64) (L := M) (j := k) (by omega)
        have q4 := nums_get (k := .i64) (L := U) (j := k) (by omega)
        have q5 := nums_get (k := .i64) (L := P) (j := k) (by omega)
        generalize ni S k = y1 at *
        generalize ni B k = y2 at *
        generalize ni M k = y3 at *
        generalize ni U k = y4 at *
        generalize ni P k = y5 at *
        have c1 : ¬ y1 < -4 := by omega
        have c2 : ¬ 4 < y1 := by omega
        have c3 : ¬ y2 < -1 := by omega
        have c4 : ¬ 1 < y2 := by omega
        have c5 : ¬ y3 ≤ -524288 := by omega
        have c6 : ¬ 524288 < y3 := by omega
        have c7 : ¬ y4 < 0 := by omega
        have c8 : ¬ 3329 ≤ y4 := by omega
        have c9 : ¬ y5 < 0 := by omega
        have c10 : ¬ 8380417 ≤ y5 := by omega
        simp (disch := first | assumption | omega | (simp only [List.length_cons, List.length_nil, List.length_set, List.length_append, List.length_replicate, List.length_map, List.length_range, List.length_take, List.length_drop, nums_length, bools_length, vecs_length]; first | done | omega)) [hk2, tn, wi k hk, q1, q2, q3, q4, q5, c1, c2, c3, c4, c5, c6, c7, c8, c9, c10, show IntKind.i64.wrap (-4) = -4 from rfl, show IntKind.i64.wrap (-524288) = -524288 from rfl]
      · simp (disch := first | assumption | omega | (simp only [List.length_cons, List.length_nil, List.length_set, List.length_append, List.length_replicate, List.length_map, List.length_range, List.length_take, List.length_drop, nums_length, bools_length, vecs_length]; first | done | omega)) [hW]
  cases b with
  | false => exact main 2 131072 18 false (.inl ⟨rfl, rfl, rfl, rfl⟩)
  | true => exact main 4 524288 20 true (.inr ⟨rfl, rfl, rfl, rfl⟩)
end Zab.YtngoidkconngmaaDoorC
