/- Sponges that gave already, in both words; what is amiss. -/
import Derived.Test.YtngoidkconngmaaDoorBSpo5
namespace Zab.YtngoidkconngmaaDoorB
open Go
open Go.IntWalk (i64_in)
set_option maxRecDepth 100000
set_option linter.unusedSimpArgs false
set_option linter.unusedVariables false
attribute [-simp] getElem?_pos
attribute [local simp ↓] W_loop W_seq W_skip W_ret W_exit W_reg W_cond W_block W_pre cleanO_some freezes_nil freezes_cons frzO_some andThen_normal andThen_ret andThen_exit unblock_normal unblock_ret unblock_exit Ends_normal Ends_ret steps_nil steps_cons step_some st_move st_pick st_bin st_un st_conv st_addr sv_ixA sv_ixS sv_fld sv_ixV st_ixStr st_ext sv_build sv_bsl sv_mkS st_mkfn sv_lenS sv_len st_mn st_mx st_nilChk st_cap st_mki st_boxE st_buildQ sv_boxQ sv_allocQ sv_appN st_tas st_slc sv_ldE sv_ldg sv_loadg sv_load st_call sv_store sv_box sv_alloc sv_mkR sv_bslR sv_nilR sv_app sv_callK stepsAt_some onSome_some onB_true onB_false onG_tt onG_tf onG_ft onG_ff onG_un optPut_some optMem_some
attribute [local simp] evalO evalL constAV get_cons get_nil put_cons put_nil look_cons look_nil putD_some clean_mk freeze_mk mapS del_cons del_nil keepS_cons keepS_nil keepL_cons keepL_nil memb_cons memb_nil unV pureV convV_i addrV toArgs anyRs hasSl2L finR resL resV one shiftV_shr shiftV_shl IntKind.bits fillV List.getElem?_cons_zero List.getElem?_cons_succ List.length_cons List.length_nil List.set_cons_zero List.set_cons_succ setR2 setR3 zrep_eqs binV_i binI_shl binI_shr binI_eqs binV_eqs binV_slcE binV_slcN lends_nil seesAny_no callK1_fn callK2_some callK3_some recvPut_some hasSlLL_nil hasSlLL_cons recv_os recv_op recv_no recvV_some recv_tp srcV_rs srcR_some List.append_nil intV_quo intV_rem hasSlL mapR_eqs kill1_eqs frz1_eqs isRs_eqs toArg_eqs from1_eqs from_eqs toRet_eqs countR_eqs hasSl1_eqs hasSl2_eqs hasSl_eqs cellsOf_ag1 cellsOf_ag2 cellsOf_ag3 cellsOf_ag4 cellsOf_ag5 partV_2 partV_3 partV_4 partV_5 ownR_of seenR_all seenR_part appS_rs appR_of srcV_sl srcV_z nilS_z bslS_some dec_t dec_f buildV_some bslV_some boxS_some root_mk ixSV_sl ixSV_rs ixAV_rf ixAV_el ixVV_ag fldV_ag lenV_sl lenV_rs lenV_z lenSV_s loadV_rf loadV_el ldEV_el loadR_some partV_none partV_all partV_some storeV_rf setR_one setR_all cellsOf_ag cellsOf_i cellsOf_b cellsOf_sl cellsOf_z cellsOf_er cellsOf_nl cellsOf_np cellsOf_s mkSV_of mkRS_of fl_map fl_kill fl_frz fl_toArg fl_isRs fl_toRet fl_from1 fl_from fl_cells fl_countR nums_length nums_get nums_set nums_append nums_snoc nums_drop nums_take nums_zrep nums_hasSl bools_length bools_get bools_set bools_snoc bools_zrep bools_hasSl vecs_length vecs_get vecs_snoc slcV_sl idxO idx Nat.zero_add Nat.mul_one Nat.add_zero nbeq_dec nble_dec nblt_dec special_nil special_cons mapQ_nil mapQ_cons frzR_some fillQ boxEV_some buildQV_some allPlain_nil allPlain_cons plain_eqs flat_eqs cellQ_eqs loadQ_some partQ_none partQ_some partF_t partF_f allFlat_nil allFlat_cons allQ_nil allQ_cons fldV_aq cellsQ_ag cellsQ_aq cellsQ_eqs cellsOf_ie enterS_nil enterS_cons enterL_nil enterL_cons partsN_nil partsN_cons partRows_nil partRows_cons scatL_nil scatL_cons rowsL_nil rowsL_cons keys_nil keys_cons rootsP_nil rootsP_cons rootsIn_nil rootsIn_cons childP_nil childP_cons childIn_nil childIn_cons okEnter_nil okEnter_cons nodupB_nil nodupB_cons allRoot_nil allRoot_cons noRoots_nil noRoots_cons apart_nil apart_cons allCh_nil allCh_cons kindsOk_nil kindsOk_cons rootB_eq chB_eq isRef_eq child_eq partId_eq okFin_eq slotOf_eqs partN_eqs lentRows_eqs argRows_eqs scat1_eqs rows1_eqs rootsR_eqs rootsA_eqs childR_eqs childA_eqs isRs0_eqs anyRs0_nil anyRs0_cons viewR_look agV_some consV_some consO_some viewL_nil viewL_rs viewL_fl frzP_nil frzP_os frzP_fl from1_op tpV_some fromRetL_nil fromRetL_cons gathL_nil gathC_some gathL_eq gathF_some gathS_some gath1_rf gath1_rs gath1_eqs ownR_ch ownR_cut retQ_some retA_some retN_some retF_some toRet_rf toRets_nil retC_some toRets_cons lentF_some lentG_some lentQ_some lentC_some lentR_op lentR_oq lentA_op lentA_oq lentParts_nil lentParts_cons lentOf_nil lentOf_cons lentR_eqs lentA_eqs countR_nil hasSlC_eqs hasSlCL_nil hasSlCL_cons sees0_nil seesAny_nil namesNot_nil sees0_eqs seesAny_eqs namesNot_eqs sees0_no lendG_some lendF_some lendP_rf lend1_rf lendV_some lendP_rs lend1_rs lendT_some lendPL_nil lendPL_cons lends_eq lendA_nil lendA_cons lendN_some lendP_eqs lend1_eqs putRows_nil putRows_cons kills_nil kills_cons putRS_mk takeRows_nil takeRows_cons rootAt_mk nilsC_some nilsOf_nil nilsOf_cons nilsX_z rootQ_eq rootR_some boxQS_some appR_cut appNS_of recvD_some recvD_none callK4_some backL_nil backC_some backL_cons afterB_some afterK_nil afterK_cons stays_cons staysB_some stays_nil nums_hasSlC bools_hasSlC recv_seven recvR_some recv_oq recv_aq recv_fn recv_ag recv_sl recv_z recv_np recv_nl recv_er recv_ie recv_fl recvT3_some recvT2_some recvT_some take1_os take1_op take1_oq take1_aq take1_fn take1_eqs notTp_eqs fl_slot fl_argRows fl_partN fl_lentRows fl_scat fl_rows1 fl_lentA fl_lentR fl_rootsA fl_rootsR fl_childA fl_childR fl_lendP fl_lend1 fl_isRs0 fl_gath fl_cellQ fl_cellsQ fl_take1 fl_sees0 fl_seesAny fl_namesNot fl_plain List.map_cons List.map_nil List.isEmpty_nil List.isEmpty_cons stepsAt_some onSome_some onB_true onB_false onG_tt onG_tf onG_ft onG_ff onG_un optPut_some optMem_some
attribute [local simp] sees_nil sees_rf sees_i sees_sl sees_z sees_rs sees_fl

set_option maxHeartbeats 8000000 in
theorem dSqueezeT {A : List Ln} (hA : A.length = 25) {R p : Nat} (hR0 : 0 < R) (hR : R ≤ 192) (hp : p ≤ R) (X : Int) {n : Int} (n0 : 0 ≤ n) (n1 : n ≤ 1048576) :
    FF tab 143 [.op (spD A R X p true), .i .i64 n] = some ⟨.tp [.os (nums .u8 (outL R (A, p) n.toNat)) n.toNat 1, .i .i64 0], [spD (nextN R (A, p) n.toNat).1 R X (nextN R (A, p) n.toNat).2 true]⟩ := by
  refine call_by (A := A143) rfl rfl ?_
  obtain ⟨S, hS⟩ : ∃ S : List Ln × Nat, S = (A, p) := ⟨_, rfl⟩
  rw [← hS]
  have hS0 : S.1 = A ∧ S.2 = p := by rw [hS]; exact ⟨rfl, rfl⟩
  have hSl : S.1.length = 25 := by rw [hS0.1]; exact hA
  have hSp : S.2 ≤ R := by rw [hS0.2]; exact hp
  have h28 := spD_28 (r := R) (x := X) (p := (p : Int)) (s := true) hA
  have ll := spD_len (r := R) (x := X) (p := (p : Int)) (s := true) hA
  have hlt : ¬ n < 0 := by omega
  have hgt : ¬ 1048576 < n := by omega
  have hnn : ((n.toNat : Nat) : Int) = n := by omega
  have zz : zrep [AV.i .u8 0] 0 = [] := rfl
  clear hS
  simp (disch := first | assumption | omega | (simp only [List.length_cons, List.length_nil, List.length_set, List.length_append, List.length_replicate, List.length_map, List.length_range, List.length_take, List.length_drop, nums_length, bools_length, vecs_length]; first | done | omega)) [A143, hlt, hgt, h28, hnn, zz]
  refine w_heads n.toNat (fun k => ⟨[(7, .i .i64 k), (6, .rs 51 0 k 1), (1, .i .i64 n), (0, .rf 0 0)], [(51, nums .u8 (outL R S k)), (0, spD (nextN R S k).1 R X (nextN R S k).2 true)]⟩) (by simp (disch := first | assumption | omega | (simp only [List.length_cons, List.length_nil, List.length_set, List.length_append, List.length_replicate, List.length_map, List.length_range, List.length_take, List.length_drop, nums_length, bools_length, vecs_length]; first | done | omega)) [hnn, nextN, hS0, outL, nums_nil]) ?_ ?_
  · intro k hk
    have wk : IntKind.i64.wrap ((k : Int) + 1) = (k : Int) + 1 := i64_in _ (by omega)
    have hkn : (k : Int).toNat = k := Int.toNat_natCast _
    have hkL : (k : Int) < n := by omega
    obtain ⟨a1, a2⟩ := nextN_ok hR0 hSl hSp k
    obtain ⟨b1, b2⟩ := outS_ok hR0 a1 a2
    have hsu := outL_succ R S k
    have hol := outL_len R S k
    have hnx : nextN R S (k + 1) = ((outS R (nextN R S k)).1, (outS R (nextN R S k)).2 + 1) := rfl
    rw [hnx, hsu]
    simp only
    clear hnx hsu hS0 ll h28
    generalize outL R S k = O0 at *
    generalize nextN R S k = Z at *
    obtain ⟨B, q⟩ := Z
    simp only at a1 a2 b1 b2 ⊢
    have hqp : q = R → outS R (B, q) = (perm B, 0) := fun h => if_pos h
    have hqn : q ≠ R → outS R (B, q) = (B, q) := fun h => if_neg h
    have hP := pfPermute B a1
    have hpl := perm_len a1
    have hl25 := lanes_25 hpl
    have g0 := spD_0 (A := B) (r := R) (x := X) (p := (q : Int)) (s := true)
    have g27 := spD_27 (r := R) (x := X) (p := (q : Int)) (s := true) a1
    have l0 := spD_len (r := R) (x := X) (p := (q : Int)) (s := true) a1
    by_cases hq : q = R
    · have e := hqp hq
      rw [e] at b1 b2 ⊢
      simp only at b1 b2 ⊢
      have hqd : decide ((q : Int) = (R : Int)) = true := decide_eq_true (by omega)
      have pt := spD_part (r := R) (x := X) (p := (q : Int)) (s := true) a1
      have ov := spD_over (r := R) (x := X) (p := (q : Int)) (s := true) a1 hpl
      have l1 := spD_len (r := R) (x := X) (p := (q : Int)) (s := true) hpl
      have l2 := spD_len (r := R) (x := X) (p := (0 : Int)) (s := true) hpl
      have s27 := spD_set27 (r := R) (x := X) (p := (q : Int)) (s := true) hpl 0
      have s27' := spD_set27 (r := R) (x := X) (p := (0 : Int)) (s := true) hpl 1
      have g27' := spD_27 (r := R) (x := X) (p := (0 : Int)) (s := true) hpl
      have gl := spD_lane (r := R) (x := X) (p := (0 : Int)) (s := true) hpl (j := 0) (by omega)
      have sh := shr_u64 (nl (perm B) 0) (n := 0) (by omega)
      have hO : outB (perm B, 0) = IntKind.u8.wrap (iv (nl (perm B) 0 >>> 0)) := by simp only [outB, Nat.zero_div, Nat.zero_mod, Nat.mul_zero]
      rw [hO]
      have z1 : IntKind.i64.wrap 0 = 0 := rfl
      have z2 : IntKind.i64.wrap 1 = 1 := rfl
      have z3 : (0 : Int).tdiv 8 = 0 := rfl
      have z4 : (0 : Int).tmod 8 = 0 := rfl
      have z5 : IntKind.u64.wrap 0 = 0 := rfl
      have e01 : ((0 + 1 : Nat) : Int) = 1 := rfl
      rw [e01]
      rw [Int.natCast_zero] at sh
      rw [show 2 + 0 = 2 from rfl] at gl
      clear hqp hqn e hO
      generalize nl (perm B) 0 >>> 0 = W at *
      generalize perm B = PB at *
      generalize hT : (k : Int) = T at *
      simp (disch := first | assumption | omega | (simp only [List.length_cons, List.length_nil, List.length_set, List.length_append, List.length_replicate, List.length_map, List.length_range, List.length_take, List.length_drop, nums_length, bools_length, vecs_length]; first | done | omega)) [hkL, hkn, hol, g27, g0, hqd, pt, hP, ov, s27, g27', gl, sh, z1, z2, z3, z4, z5, nums_snoc, s27', wk, hT, -shiftV_shl, -shiftV_shr]
    · have e := hqn hq
      rw [e] at b1 b2 ⊢
      simp only at b1 b2 ⊢
      have hqd : ¬ ((q : Int) = (R : Int)) := by omega
      have q8 : q / 8 < 25 := by omega
      have gl := spD_lane (r := R) (x := X) (p := (q : Int)) (s := true) a1 q8
      have sh := shr_u64 (nl B (q / 8)) (n := 8 * (q % 8)) (by omega)
      have hO : outB (B, q) = IntKind.u8.wrap (iv (nl B (q / 8) >>> (8 * (q % 8)))) := rfl
      rw [hO]
      have z1 : (q : Int).tdiv 8 = ((q / 8 : Nat) : Int) := rfl
      have z2 : (q : Int).tmod 8 = ((q % 8 : Nat) : Int) := rfl
      have z3 : IntKind.i64.wrap ((q / 8 : Nat) : Int) = ((q / 8 : Nat) : Int) := i64_in _ (by omega)
      have z4 : IntKind.i64.wrap (((q % 8 : Nat) : Int) * 8) = ((8 * (q % 8) : Nat) : Int) := by rw [i64_in _ (by omega)]; omega
      have z5 : ((q / 8 : Nat) : Int).toNat = q / 8 := Int.toNat_natCast _
      have z6 : 0 ≤ ((q / 8 : Nat) : Int) ∧ ((q / 8 : Nat) : Int) < 25 := by omega
      have z7 := u64_i (n := 8 * (q % 8)) (by omega)
      have wq : IntKind.i64.wrap ((q : Int) + 1) = ((q + 1 : Nat) : Int) := i64_in _ (by omega)
      have s27 := spD_set27 (r := R) (x := X) (p := (q : Int)) (s := true) a1 ((q + 1 : Nat) : Int)
      clear hqp hqn e hO hP hpl hl25 hq
      generalize nl B (q / 8) >>> (8 * (q % 8)) = W at *
      generalize ((8 * (q % 8) : Nat) : Int) = E at *
      generalize ((q % 8 : Nat) : Int) = M at *
      generalize ((q / 8 : Nat) : Int) = D at *
      generalize q / 8 = J at *
      generalize ((q + 1 : Nat) : Int) = Q1 at *
      generalize hT : (k : Int) = T at *
      simp (disch := first | assumption | omega | (simp only [List.length_cons, List.length_nil, List.length_set, List.length_append, List.length_replicate, List.length_map, List.length_range, List.length_take, List.length_drop, nums_length, bools_length, vecs_length]; first | done | omega)) [hkL, hkn, hol, g27, g0, hqd, gl, sh, z1, z2, z3, z4, z5, z7, nums_snoc, s27, wq, wk, hT, -shiftV_shl, -shiftV_shr]
  · have hol := outL_len R S n.toNat
    have hnl := nums_length .u8 (outL R S n.toNat)
    have lo := fun C => lent_one3 C (spD A R X p true) (nums .u8 (outL R S n.toNat)) n
    generalize nextN R S n.toNat = S1 at *
    generalize outL R S n.toNat = F at *
    simp (disch := first | assumption | omega | (simp only [List.length_cons, List.length_nil, List.length_set, List.length_append, List.length_replicate, List.length_map, List.length_range, List.length_take, List.length_drop, nums_length, bools_length, vecs_length]; first | done | omega)) [hol, hnl, hnn, lo]

theorem dAbsorbT {A : List Ln} (hA : A.length = 25) (R p : Nat) (X : Int) {x : AV} (fx : x.flat = true) :
    FF tab 142 [.op (spD A R X p true), x] = some ⟨.i .i64 104, [spD A R X p true]⟩ := by
  refine call_by (A := A142) rfl rfl ?_
  have h28 := spD_28 (r := R) (x := X) (p := (p : Int)) (s := true) hA
  have ll := spD_len (r := R) (x := X) (p := (p : Int)) (s := true) hA
  have lo := lent_one (spD A R X p true) (spD A R X p true) fx
  simp (disch := first | assumption | omega | (simp only [List.length_cons, List.length_nil, List.length_set, List.length_append, List.length_replicate, List.length_map, List.length_range, List.length_take, List.length_drop, nums_length, bools_length, vecs_length]; first | done | omega)) [A142, h28, lo]
theorem dBad {A : List Ln} (R : Int) (p : Nat) (X : Int) (s : Bool) {n : Int} (hn : n < 0 ∨ 1048576 < n) :
    FF tab 143 [.op (spD A R X p s), .i .i64 n] = some ⟨.tp [.z, .i .i64 101], [spD A R X p s]⟩ := by
  refine call_by (A := A143) rfl rfl ?_
  have lo : lentOf [(0, spD A R X p s)] 0 [.op (spD A R X p s), .i .i64 n] = some ([spD A R X p s], []) := rfl
  by_cases h0 : n < 0
  · simp (disch := first | assumption | omega | (simp only [List.length_cons, List.length_nil, List.length_set, List.length_append, List.length_replicate, List.length_map, List.length_range, List.length_take, List.length_drop, nums_length, bools_length, vecs_length]; first | done | omega)) [A143, h0, lo]
  · have h1 : 1048576 < n := by omega
    simp (disch := first | assumption | omega | (simp only [List.length_cons, List.length_nil, List.length_set, List.length_append, List.length_replicate, List.length_map, List.length_range, List.length_take, List.length_drop, nums_length, bools_length, vecs_length]; first | done | omega)) [A143, h0, h1, lo]
end Zab.YtngoidkconngmaaDoorB
