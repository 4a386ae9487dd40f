/- Numbers below a bound out of bits, masks: both functions. -/
import Derived.Test.YtngoidkconngmaaDoorCDrawM
namespace Zab.YtngoidkconngmaaDoorC
open Go
open Go.IntWalk (i64_in)
set_option maxRecDepth 100000
set_option linter.unusedSimpArgs false
set_option linter.unusedVariables false
attribute [-simp] getElem?_pos
attribute [local simp ↓] W_loop W_seq W_skip W_ret W_exit W_reg W_cond W_block W_pre cleanO_some freezes_nil freezes_cons frzO_some andThen_normal andThen_ret andThen_exit unblock_normal unblock_ret unblock_exit Ends_normal Ends_ret steps_nil steps_cons step_some st_move st_pick st_bin st_un st_conv st_addr sv_ixA sv_ixS sv_fld sv_ixV st_ixStr st_ext sv_build sv_bsl sv_mkS st_mkfn sv_lenS sv_len st_mn st_mx st_nilChk st_cap st_mki st_boxE st_buildQ sv_boxQ sv_allocQ sv_appN st_tas st_slc sv_ldE sv_ldg sv_loadg sv_load st_call sv_store sv_box sv_alloc sv_mkR sv_bslR sv_nilR sv_app sv_callK stepsAt_some onSome_some onB_true onB_false onG_tt onG_tf onG_ft onG_ff onG_un optPut_some optMem_some
attribute [local simp] evalO evalL constAV get_cons get_nil put_cons put_nil look_cons look_nil putD_some clean_mk freeze_mk mapS del_cons del_nil keepS_cons keepS_nil keepL_cons keepL_nil memb_cons memb_nil unV pureV convV_i addrV toArgs anyRs hasSl2L finR resL resV one shiftV_shr shiftV_shl IntKind.bits fillV List.getElem?_cons_zero List.getElem?_cons_succ List.length_cons List.length_nil List.set_cons_zero List.set_cons_succ setR2 setR3 zrep_eqs binV_i binI_shl binI_shr binI_eqs binV_eqs binV_slcE binV_slcN lends_nil seesAny_no callK1_fn callK2_some callK3_some recvPut_some hasSlLL_nil hasSlLL_cons recv_os recv_op recv_no recvV_some recv_tp srcV_rs srcR_some List.append_nil intV_quo intV_rem hasSlL mapR_eqs kill1_eqs frz1_eqs isRs_eqs toArg_eqs from1_eqs from_eqs toRet_eqs countR_eqs hasSl1_eqs hasSl2_eqs hasSl_eqs cellsOf_ag1 cellsOf_ag2 cellsOf_ag3 cellsOf_ag4 cellsOf_ag5 partV_2 partV_3 partV_4 partV_5 ownR_of seenR_all seenR_part appS_rs appR_of srcV_sl srcV_z nilS_z bslS_some dec_t dec_f buildV_some bslV_some boxS_some root_mk ixSV_sl ixSV_rs ixAV_rf ixAV_el ixVV_ag fldV_ag lenV_sl lenV_rs lenV_z lenSV_s loadV_rf loadV_el ldEV_el loadR_some partV_none partV_all partV_some storeV_rf setR_one setR_all cellsOf_ag cellsOf_i cellsOf_b cellsOf_sl cellsOf_z cellsOf_er cellsOf_nl cellsOf_np cellsOf_s mkSV_of mkRS_of fl_map fl_kill fl_frz fl_toArg fl_isRs fl_toRet fl_from1 fl_from fl_cells fl_countR nums_length nums_get nums_set nums_append nums_snoc nums_drop nums_take nums_zrep nums_hasSl bools_length bools_get bools_set bools_snoc bools_zrep bools_hasSl vecs_length vecs_get vecs_snoc slcV_sl idxO idx Nat.zero_add Nat.mul_one Nat.add_zero nbeq_dec nble_dec nblt_dec special_nil special_cons mapQ_nil mapQ_cons frzR_some fillQ boxEV_some buildQV_some allPlain_nil allPlain_cons plain_eqs flat_eqs cellQ_eqs loadQ_some partQ_none partQ_some partF_t partF_f allFlat_nil allFlat_cons allQ_nil allQ_cons fldV_aq cellsQ_ag cellsQ_aq cellsQ_eqs cellsOf_ie enterS_nil enterS_cons enterL_nil enterL_cons partsN_nil partsN_cons partRows_nil partRows_cons scatL_nil scatL_cons rowsL_nil rowsL_cons keys_nil keys_cons rootsP_nil rootsP_cons rootsIn_nil rootsIn_cons childP_nil childP_cons childIn_nil childIn_cons okEnter_nil okEnter_cons nodupB_nil nodupB_cons allRoot_nil allRoot_cons noRoots_nil noRoots_cons apart_nil apart_cons allCh_nil allCh_cons kindsOk_nil kindsOk_cons rootB_eq chB_eq isRef_eq child_eq partId_eq okFin_eq slotOf_eqs partN_eqs lentRows_eqs argRows_eqs scat1_eqs rows1_eqs rootsR_eqs rootsA_eqs childR_eqs childA_eqs isRs0_eqs anyRs0_nil anyRs0_cons viewR_look agV_some consV_some consO_some viewL_nil viewL_rs viewL_fl frzP_nil frzP_os frzP_fl from1_op tpV_some fromRetL_nil fromRetL_cons gathL_nil gathC_some gathL_eq gathF_some gathS_some gath1_rf gath1_rs gath1_eqs ownR_ch ownR_cut retQ_some retA_some retN_some retF_some toRet_rf toRets_nil retC_some toRets_cons lentF_some lentG_some lentQ_some lentC_some lentR_op lentR_oq lentA_op lentA_oq lentParts_nil lentParts_cons lentOf_nil lentOf_cons lentR_eqs lentA_eqs countR_nil hasSlC_eqs hasSlCL_nil hasSlCL_cons sees0_nil seesAny_nil namesNot_nil sees0_eqs seesAny_eqs namesNot_eqs sees0_no lendG_some lendF_some lendP_rf lend1_rf lendV_some lendP_rs lend1_rs lendT_some lendPL_nil lendPL_cons lends_eq lendA_nil lendA_cons lendN_some lendP_eqs lend1_eqs putRows_nil putRows_cons kills_nil kills_cons putRS_mk takeRows_nil takeRows_cons rootAt_mk nilsC_some nilsOf_nil nilsOf_cons nilsX_z rootQ_eq rootR_some boxQS_some appR_cut appNS_of recvD_some recvD_none callK4_some backL_nil backC_some backL_cons afterB_some afterK_nil afterK_cons stays_cons staysB_some stays_nil nums_hasSlC bools_hasSlC recv_seven recvR_some recv_oq recv_aq recv_fn recv_ag recv_sl recv_z recv_np recv_nl recv_er recv_ie recv_fl recvT3_some recvT2_some recvT_some take1_os take1_op take1_oq take1_aq take1_fn take1_eqs notTp_eqs fl_slot fl_argRows fl_partN fl_lentRows fl_scat fl_rows1 fl_lentA fl_lentR fl_rootsA fl_rootsR fl_childA fl_childR fl_lendP fl_lend1 fl_isRs0 fl_gath fl_cellQ fl_cellsQ fl_take1 fl_sees0 fl_seesAny fl_namesNot fl_plain List.map_cons List.map_nil List.isEmpty_nil List.isEmpty_cons stepsAt_some onSome_some onB_true onB_false onG_tt onG_tf onG_ft onG_ff onG_un optPut_some optMem_some

theorem pFair {low high : Int} (l0 : 0 ≤ low) (l1 : low ≤ 8388608) (h0 : 0 ≤ high) (h1 : high ≤ 8388608) (hs : 0 < low + high) : FF tab 170 [.i .i64 low, .i .i64 high] = some ⟨.b true, []⟩ := by
  refine call_by (A := A170) rfl rfl ?_
  have w : IntKind.i64.wrap (low + high) = low + high := i64_in _ (by omega)
  simp (disch := first | assumption | omega | (simp only [List.length_cons, List.length_nil, List.length_set, List.length_append, List.length_replicate, List.length_map, List.length_range, List.length_take, List.length_drop, nums_length, bools_length, vecs_length]; first | done | omega)) [A170, l0, l1, h0, h1, hs, w]
set_option maxHeartbeats 8000000 in
theorem pOpenS {low high : Int} (l0 : 0 ≤ low) (l1 : low ≤ 8388608) (h0 : 0 ≤ high) (h1 : high ≤ 8388608) (hs : 0 < low + high) {d n : Nat} (hW : FF tab 119 [.i .i64 (low + high)] = some ⟨.i .i64 d, []⟩)
    (d1 : 1 ≤ d) (d24 : d ≤ 24) (n1 : 1 ≤ n) (n4 : n ≤ 4096) {x : AV} {L : List Int} (hx : IsL .u8 x L) (hI : ∀ y ∈ L, inK .u8 y) (hl : 8 * L.length = d * n)
    (ok : ∀ i, i < n → ¬ high - (opn d (val L) i : Int) < -low) :
    FF tab 120 [.i .i64 low, .i .i64 high, .i .i64 n, x] = some ⟨.tp [.os (nums .i64 (sgnL high d (val L) n)) n 1, .nl], []⟩ := by
  refine call_by (A := A120) rfl rfl ?_
  have fx := hx.flat
  have hF := pFair l0 l1 h0 h1 hs
  have hO := pOpenB d1 d24 n1 n4 hx hI hl
  have w : IntKind.i64.wrap (low + high) = low + high := i64_in _ (by omega)
  have wn : IntKind.i64.wrap (-low) = -low := i64_in _ (by omega)
  have ol := fun i => opn_lt d (val L) i
  have hp3 := pow_le d24
  rw [show opnL d (val L) n = turnTo (fun i => high - (opn d (val L) i : Int)) (fun i => (opn d (val L) i : Int)) n 0 from (turnTo_zero _ _ _).symm] at hO
  rw [show sgnL high d (val L) n = turnTo (fun i => high - (opn d (val L) i : Int)) (fun i => (opn d (val L) i : Int)) n n from (turnTo_all _ _ _).symm]
  have tl := turnTo_len (fun i => high - (opn d (val L) i : Int)) (fun i => (opn d (val L) i : Int)) n
  simp (disch := first | assumption | omega | (simp only [List.length_cons, List.length_nil, List.length_set, List.length_append, List.length_replicate, List.length_map, List.length_range, List.length_take, List.length_drop, nums_length, bools_length, vecs_length]; first | done | omega)) [A120, hF, hW, hO, w, tl]
  refine w_heads n (fun i => ⟨[(34, .i .i64 i), (33, .i .i64 n), (32, .rs 1026 0 n 1), (10, .rs 1026 0 n 1), (1, .i .i64 high), (0, .i .i64 low)], [(1026, nums .i64 (turnTo (fun i => high - (opn d (val L) i : Int)) (fun i => (opn d (val L) i : Int)) n i))]⟩) (by simp (disch := first | assumption | omega | (simp only [List.length_cons, List.length_nil, List.length_set, List.length_append, List.length_replicate, List.length_map, List.length_range, List.length_take, List.length_drop, nums_length, bools_length, vecs_length]; first | done | omega)) []) ?_ ?_
  · intro i hi
    have hin : (i : Int) < n := by omega
    have tn : (i : Int).toNat = i := Int.toNat_natCast _
    have wi : IntKind.i64.wrap ((i : Int) + 1) = (i : Int) + 1 := i64_in _ (by omega)
    have l := ol i
    have o := ok i hi
    have t0 := tl i
    have t1 := tl (i + 1)
    have g0 := nums_get (k := .i64) (L := turnTo (fun i => high - (opn d (val L) i : Int)) (fun i => (opn d (val L) i : Int)) n i) (j := i) (by omega)
    rw [turnTo_ni _ _ hi (Nat.le_refl i)] at g0
    have g1 := nums_get (k := .i64) (L := turnTo (fun i => high - (opn d (val L) i : Int)) (fun i => (opn d (val L) i : Int)) n (i + 1)) (j := i) (by omega)
    rw [turnTo_now _ _ hi] at g1
    have st := turnTo_set (fun i => high - (opn d (val L) i : Int)) (fun i => (opn d (val L) i : Int)) hi
    generalize turnTo (fun i => high - (opn d (val L) i : Int)) (fun i => (opn d (val L) i : Int)) n (i + 1) = T1 at *
    generalize turnTo (fun i => high - (opn d (val L) i : Int)) (fun i => (opn d (val L) i : Int)) n i = T0 at *
    obtain ⟨G, hG⟩ : ∃ G : Int, G = high - (opn d (val L) i : Int) := ⟨_, rfl⟩
    have ws : IntKind.i64.wrap (high - (opn d (val L) i : Int)) = G := by rw [hG]; exact i64_in _ (by omega)
    rw [← hG] at o g1 st
    clear hG
    generalize ((opn d (val L) i : Nat) : Int) = y at *
    simp (disch := first | assumption | omega | (simp only [List.length_cons, List.length_nil, List.length_set, List.length_append, List.length_replicate, List.length_map, List.length_range, List.length_take, List.length_drop, nums_length, bools_length, vecs_length]; first | done | omega)) [hin, tn, wi, o, wn, t0, t1, g0, g1, st, ws]
  · have t0 := tl n
    generalize turnTo (fun i => high - (opn d (val L) i : Int)) (fun i => (opn d (val L) i : Int)) n n = T0 at *
    simp (disch := first | assumption | omega | (simp only [List.length_cons, List.length_nil, List.length_set, List.length_append, List.length_replicate, List.length_map, List.length_range, List.length_take, List.length_drop, nums_length, bools_length, vecs_length]; first | done | omega)) [t0]
def lenTab : ByteArray := ⟨#[0, 1, 2, 2, 3, 3, 3, 3, 4, 4, 4, 4, 4, 4, 4, 4, 5, 5, 5, 5, 5, 5, 5, 5, 5, 5, 5, 5, 5, 5, 5, 5, 6, 6, 6, 6, 6, 6, 6, 6, 6, 6, 6, 6, 6, 6, 6, 6, 6, 6, 6, 6, 6, 6, 6, 6, 6, 6, 6, 6, 6, 6, 6, 6, 7, 7, 7, 7, 7, 7, 7, 7, 7, 7, 7, 7, 7, 7, 7, 7, 7, 7, 7, 7, 7, 7, 7, 7, 7, 7, 7, 7, 7, 7, 7, 7, 7, 7, 7, 7, 7, 7, 7, 7, 7, 7, 7, 7, 7, 7, 7, 7, 7, 7, 7, 7, 7, 7, 7, 7, 7, 7, 7, 7, 7, 7, 7, 7, 8, 8, 8, 8, 8, 8, 8, 8, 8, 8, 8, 8, 8, 8, 8, 8, 8, 8, 8, 8, 8, 8, 8, 8, 8, 8, 8, 8, 8, 8, 8, 8, 8, 8, 8, 8, 8, 8, 8, 8, 8, 8, 8, 8, 8, 8, 8, 8, 8, 8, 8, 8, 8, 8, 8, 8, 8, 8, 8, 8, 8, 8, 8, 8, 8, 8, 8, 8, 8, 8, 8, 8, 8, 8, 8, 8, 8, 8, 8, 8, 8, 8, 8, 8, 8, 8, 8, 8, 8, 8, 8, 8, 8, 8, 8, 8, 8, 8, 8, 8, 8, 8, 8, 8, 8, 8, 8, 8, 8, 8, 8, 8, 8, 8, 8, 8, 8, 8, 8, 8, 8, 8, 8, 8, 8, 8, 8, 8]⟩
def len8 (k : Nat) : Nat := if k = 0 then 0 else Nat.log2 k + 1
theorem lenTab_all : ∀ k, k < 256 → lenTab[k]? = some (UInt8.ofNat (len8 k)) ∧ (UInt8.ofNat (len8 k)).toNat = len8 k ∧ len8 k ≤ 8 := by decide +kernel
/-- How many bits a number has. -/
def lenN (n : Nat) : Nat := if n < 256 then len8 n else if n < 65536 then 8 + len8 (n / 256) else 16 + len8 (n / 65536)
theorem pLen64 {n : Nat} (hn : n < 16777216) : FF tab 193 [.i .u64 n] = some ⟨.i .i64 (lenN n), []⟩ := by
  refine call_by (A := A193) rfl rfl ?_
  have c1 : ¬ (4294967296 : Int) ≤ n := by omega
  by_cases h1 : n < 256
  · have c2 : ¬ (65536 : Int) ≤ n := by omega
    have c3 : ¬ (256 : Int) ≤ n := by omega
    obtain ⟨ht, h2, h3⟩ := lenTab_all n h1
    have e : lenN n = len8 n := if_pos h1
    rw [e]
    have tn : (n : Int).toNat = n := Int.toNat_natCast _
    have w1 : IntKind.u8.wrap (n : Int) = n := u8_nat h1
    have w2 : IntKind.i64.wrap (len8 n : Int) = len8 n := i64_in _ (by omega)
    unfold lenTab at ht
    generalize UInt8.ofNat (len8 n) = y at *
    generalize len8 n = l at *
    simp (disch := first | assumption | omega | (simp only [List.length_cons, List.length_nil, List.length_set, List.length_append, List.length_replicate, List.length_map, List.length_range, List.length_take, List.length_drop, nums_length, bools_length, vecs_length]; first | done | omega)) [A193, c1, c2, c3, ht, h2, tn, w1, w2]
  · by_cases h4 : n < 65536
    · have c2 : ¬ (65536 : Int) ≤ n := by omega
      have c3 : (256 : Int) ≤ n := by omega
      obtain ⟨ht, h2, h3⟩ := lenTab_all (n / 256) (by omega)
      have e : lenN n = 8 + len8 (n / 256) := by unfold lenN; rw [if_neg h1, if_pos h4]
      rw [e]
      have sh := shr_at (k := .u64) (a := n) (d := 8) (by show 8 ≤ 64; omega)
      rw [show n / 2 ^ 8 = n / 256 from rfl, show ((8 : Nat) : Int) = 8 from rfl] at sh
      have tn : ((n / 256 : Nat) : Int).toNat = n / 256 := Int.toNat_natCast _
      have p0 : (0 : Int) ≤ ((n / 256 : Nat) : Int) := by omega
      have w1 : IntKind.u8.wrap ((n / 256 : Nat) : Int) = ((n / 256 : Nat) : Int) := u8_nat (by omega)
      have w2 : IntKind.i64.wrap (len8 (n / 256) : Int) = len8 (n / 256) := i64_in _ (by omega)
      have w3 : IntKind.i64.wrap (8 + (len8 (n / 256) : Int)) = 8 + (len8 (n / 256) : Int) := i64_in _ (by omega)
      unfold lenTab at ht
      generalize UInt8.ofNat (len8 (n / 256)) = y at *
      generalize len8 (n / 256) = l at *
      generalize hm : n / 256 = m at *
      generalize hM : (m : Int) = M at *
      simp (disch := first | assumption | omega | (simp only [List.length_cons, List.length_nil, List.length_set, List.length_append, List.length_replicate, List.length_map, List.length_range, List.length_take, List.length_drop, nums_length, bools_length, vecs_length]; first | done | omega)) [A193, c1, c2, c3, ht, h2, sh, tn, p0, w1, w2, w3, show IntKind.i64.wrap 8 = 8 from rfl, -shiftV_shr]
    · have c2 : (65536 : Int) ≤ n := by omega
      obtain ⟨ht, h2, h3⟩ := lenTab_all (n / 65536) (by omega)
      have e : lenN n = 16 + len8 (n / 65536) := by unfold lenN; rw [if_neg h1, if_neg h4]
      rw [e]
      have sh := shr_at (k := .u64) (a := n) (d := 16) (by show 16 ≤ 64; omega)
      rw [show n / 2 ^ 16 = n / 65536 from rfl, show ((16 : Nat) : Int) = 16 from rfl] at sh
      have c3 : ¬ (256 : Int) ≤ ((n / 65536 : Nat) : Int) := by omega
      have tn : ((n / 65536 : Nat) : Int).toNat = n / 65536 := Int.toNat_natCast _
      have p0 : (0 : Int) ≤ ((n / 65536 : Nat) : Int) := by omega
      have w1 : IntKind.u8.wrap ((n / 65536 : Nat) : Int) = ((n / 65536 : Nat) : Int) := u8_nat (by omega)
      have w2 : IntKind.i64.wrap (len8 (n / 65536) : Int) = len8 (n / 65536) := i64_in _ (by omega)
      have w3 : IntKind.i64.wrap (16 + (len8 (n / 65536) : Int)) = 16 + (len8 (n / 65536) : Int) := i64_in _ (by omega)
      unfold lenTab at ht
      generalize UInt8.ofNat (len8 (n / 65536)) = y at *
      generalize len8 (n / 65536) = l at *
      generalize hm : n / 65536 = m at *
      generalize hM : (m : Int) = M at *
      simp (disch := first | assumption | omega | (simp only [List.length_cons, List.length_nil, List.length_set, List.length_append, List.length_replicate, List.length_map, List.length_range, List.length_take, List.length_drop, nums_length, bools_length, vecs_length]; first | done | omega)) [A193, c1, c2, c3, ht, h2, sh, tn, p0, w1, w2, w3, show IntKind.i64.wrap 16 = 16 from rfl, -shiftV_shr]
theorem pWidthN {n : Nat} (hn : n < 16777216) : FF tab 119 [.i .i64 n] = some ⟨.i .i64 (lenN n), []⟩ := by
  have h2 : FF tab 169 [.i .u64 n] = some ⟨.i .i64 (lenN n), []⟩ := by
    refine call_by (A := A169) rfl rfl ?_
    simp (disch := first | assumption | omega | (simp only [List.length_cons, List.length_nil, List.length_set, List.length_append, List.length_replicate, List.length_map, List.length_range, List.length_take, List.length_drop, nums_length, bools_length, vecs_length]; first | done | omega)) [A169, pLen64 hn]
  refine call_by (A := A119) rfl rfl ?_
  have w : IntKind.u64.wrap (n : Int) = n := u64_nat (by omega)
  have m : ¬ (n : Int) < 0 := by omega
  generalize (n : Int) = N at *
  simp (disch := first | assumption | omega | (simp only [List.length_cons, List.length_nil, List.length_set, List.length_append, List.length_replicate, List.length_map, List.length_range, List.length_take, List.length_drop, nums_length, bools_length, vecs_length]; first | done | omega)) [A119, h2, w, m, maxV]
theorem pWidth18 : FF tab 119 [.i .i64 262143] = some ⟨.i .i64 18, []⟩ := pWidthN (n := 262143) (by omega)
theorem pWidth20 : FF tab 119 [.i .i64 1048575] = some ⟨.i .i64 20, []⟩ := pWidthN (n := 1048575) (by omega)
/-- The bytes of a mask. -/
abbrev mskB (d : Nat) (L : List Int) : List Int := outL 136 (padS 136 31 (takeL 136 (zL 25, 0) L)) (32 * d)
theorem mskB_in (d : Nat) (L : List Int) : ∀ y ∈ mskB d L, inK .u8 y := by
  intro y hy
  obtain ⟨k, _, rfl⟩ := List.mem_map.1 hy
  obtain ⟨a, b⟩ := outB_in (outS 136 (nextN 136 (padS 136 31 (takeL 136 (zL 25, 0) L)) k))
  exact ⟨a, by show _ ≤ (255 : Int); omega⟩
theorem mskB_len (d : Nat) (L : List Int) : (mskB d L).length = 32 * d := outL_len _ _ _
/-- Which masks there are. -/
def Gam (g : Int) (d : Nat) : Prop := g = 131072 ∧ d = 18 ∨ g = 524288 ∧ d = 20
theorem gam_ok {g : Int} {d : Nat} (h : Gam g d) (V i : Nat) : ¬ g - (opn d V i : Int) < -(g - 1) := by
  have := opn_lt d V i
  rcases h with ⟨rfl, rfl⟩ | ⟨rfl, rfl⟩ <;> omega
set_option maxHeartbeats 4000000 in
theorem pMask {g : Int} {d : Nat} (hg : Gam g d) {x : AV} {L : List Int} (hx : IsL .u8 x L) (hB : Bys L) {n : Int} (n0 : 0 ≤ n) (n1 : n ≤ 65535) :
    FF tab 49 [.i .i64 g, x, .i .i64 n] = some ⟨.tp [.sl (nums .i64 (sgnL g d (val (mskB d (L ++ [n % 256, n / 256]))) 256)) 256, .nl], []⟩ := by
  refine call_by (A := A49) rfl rfl ?_
  have fx := hx.flat
  have l0 := lo_in (n := n)
  have g0 := hi_in n0 n1
  have hW := pTwo n0 n1
  have hS := s256 (32 * (d : Int)) (IsV.two hx (u := .sl (nums .u8 [n % 256, n / 256]) 2) (M := [n % 256, n / 256]) (.inl rfl)) (two_bys hB (two_in l0.1 l0.2 g0.1 g0.2)) (by simp)
  rw [if_neg (by rcases hg with ⟨rfl, rfl⟩ | ⟨rfl, rfl⟩ <;> omega), show [L, [n % 256, n / 256]].flatten = L ++ [n % 256, n / 256] by simp, show (32 * (d : Int)).toNat = 32 * d by omega] at hS
  have hl := mskB_len d (L ++ [n % 256, n / 256])
  have hin := mskB_in d (L ++ [n % 256, n / 256])
  unfold mskB at *
  generalize outL 136 (padS 136 31 (takeL 136 (zL 25, 0) (L ++ [n % 256, n / 256]))) (32 * d) = Bs at *
  have hO := pOpenS (low := g - 1) (high := g) (d := d) (n := 256) (by rcases hg with ⟨rfl, rfl⟩ | ⟨rfl, rfl⟩ <;> omega) (by rcases hg with ⟨rfl, rfl⟩ | ⟨rfl, rfl⟩ <;> omega) (by rcases hg with ⟨rfl, rfl⟩ | ⟨rfl, rfl⟩ <;> omega) (by rcases hg with ⟨rfl, rfl⟩ | ⟨rfl, rfl⟩ <;> omega) (by rcases hg with ⟨rfl, rfl⟩ | ⟨rfl, rfl⟩ <;> omega)
    (by rcases hg with ⟨rfl, rfl⟩ | ⟨rfl, rfl⟩; exact pWidth18; exact pWidth20) (by rcases hg with ⟨rfl, rfl⟩ | ⟨rfl, rfl⟩ <;> omega) (by rcases hg with ⟨rfl, rfl⟩ | ⟨rfl, rfl⟩ <;> omega) (by omega) (by omega)
    (x := .sl (nums .u8 Bs) (32 * d)) (L := Bs) (.inl (by show _ = AV.sl _ _; rw [hl])) hin (by rw [hl]; omega) (fun i _ => gam_ok hg _ i)
  rw [show ((256 : Nat) : Int) = 256 from rfl] at hO
  have hT := sgnL_len g d (val Bs) 256
  generalize sgnL g d (val Bs) 256 = T at *
  generalize nums .u8 Bs = bs at *
  generalize nums .u8 [n % 256, n / 256] = tw at *
  have c1 : ¬ n < 0 := by omega
  have c2 : ¬ (65535 : Int) < n := by omega
  rcases hg with ⟨rfl, rfl⟩ | ⟨rfl, rfl⟩
  · rw [show 32 * (((18 : Nat)) : Int) = 576 from rfl, show 32 * 18 = 576 from rfl] at hS
    rw [show (131072 : Int) - 1 = 131071 from rfl, show 32 * 18 = 576 from rfl] at hO
    simp (disch := first | assumption | omega | (simp only [List.length_cons, List.length_nil, List.length_set, List.length_append, List.length_replicate, List.length_map, List.length_range, List.length_take, List.length_drop, nums_length, bools_length, vecs_length]; first | done | omega)) [A49, hT, hW, hS, hO, pWidth18, c1, c2, show IntKind.i64.wrap 262144 = 262144 from rfl, show IntKind.i64.wrap 262143 = 262143 from rfl, show IntKind.i64.wrap 4608 = 4608 from rfl, show IntKind.i64.wrap 576 = 576 from rfl, show IntKind.i64.wrap 131071 = 131071 from rfl]
  · rw [show 32 * (((20 : Nat)) : Int) = 640 from rfl, show 32 * 20 = 640 from rfl] at hS
    rw [show (524288 : Int) - 1 = 524287 from rfl, show 32 * 20 = 640 from rfl] at hO
    simp (disch := first | assumption | omega | (simp only [List.length_cons, List.length_nil, List.length_set, List.length_append, List.length_replicate, List.length_map, List.length_range, List.length_take, List.length_drop, nums_length, bools_length, vecs_length]; first | done | omega)) [A49, hT, hW, hS, hO, pWidth20, c1, c2, show IntKind.i64.wrap 1048576 = 1048576 from rfl, show IntKind.i64.wrap 1048575 = 1048575 from rfl, show IntKind.i64.wrap 5120 = 5120 from rfl, show IntKind.i64.wrap 640 = 640 from rfl, show IntKind.i64.wrap 524287 = 524287 from rfl]
end Zab.YtngoidkconngmaaDoorC
