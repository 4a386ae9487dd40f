/- Numbers and polynomials, in the document's words. -/
import Derived.Test.YtcebddjidpbhgaaDoorBRing
import Derived.Test.YtcebddjidpbhgaaDoorBSame
namespace Zab.YtcebddjidpbhgaaDoorB
open Go
open Go.IntWalk (i64_in)
set_option maxRecDepth 100000
set_option linter.unusedSimpArgs false
set_option linter.unusedVariables false
attribute [-simp] getElem?_pos
attribute [local simp ↓] W_loop W_seq W_skip W_ret W_exit W_reg W_cond W_block W_pre cleanO_some freezes_nil freezes_cons frzO_some andThen_normal andThen_ret andThen_exit unblock_normal unblock_ret unblock_exit Ends_normal Ends_ret steps_nil steps_cons step_some st_move st_pick st_bin st_un st_conv st_addr sv_ixA sv_ixS sv_fld sv_ixV st_ixStr st_ext sv_build sv_bsl sv_mkS st_mkfn sv_lenS sv_len st_mn st_mx st_nilChk st_tas st_slc sv_loadg sv_load st_call sv_store sv_box sv_alloc sv_mkR sv_bslR sv_nilR sv_app sv_callK stepsAt_some onSome_some onB_true onB_false onG_tt onG_tf onG_ft onG_ff onG_un optPut_some optMem_some
attribute [local simp] evalO evalL constAV get_cons get_nil put_cons put_nil look_cons look_nil putD_some clean_mk freeze_mk mapS del_cons del_nil keepS_cons keepS_nil keepL_cons keepL_nil memb_cons memb_nil unV pureV convV_i addrV toArgs anyRs hasSl2L fromRetL finR resL resV toRets one Nat.beq Nat.ble shiftV_shr shiftV_shl IntKind.bits fillV List.getElem?_cons_zero List.getElem?_cons_succ List.length_cons List.length_nil List.set_cons_zero List.set_cons_succ setR2 setR3 zrep_eqs binV_i binI_shl binI_shr binI_eqs binV_eqs binV_slcE binV_slcN lendsC_some lends_nil lends_eqs fl_lends lends_rf lendsR_some lends_rs lendsS_some seesAny_no callK1_fn callK2_some callK3_some recvPut_some afterK_some afterK_none putAll_nil putAll_cons hasSlLL_nil hasSlLL_cons recv_os recv_op recv_no recvV_some recv_tp recvT_os recvT_op srcV_rs srcR_some List.append_nil intV_quo intV_rem hasSlL mapR_eqs kill1_eqs frz1_eqs enterS_eqs enterL_eqs isRs_eqs toArg_eqs from1_eqs from_eqs toRet_eqs lentOf_eqs countR_eqs hasSl1_eqs hasSl2_eqs hasSl_eqs cellsOf_ag1 cellsOf_ag2 cellsOf_ag3 cellsOf_ag4 cellsOf_ag5 partV_2 partV_3 partV_4 partV_5 toRet_own ownR_of toArg_rs seenR_all seenR_part appS_rs appR_of srcV_sl srcV_z nilS_z bslS_some dec_t dec_f buildV_some bslV_some boxS_some root_mk ixSV_sl ixSV_rs ixAV_rf ixAV_el ixVV_ag fldV_ag lenV_sl lenV_rs lenV_z lenSV_s loadV_rf loadV_el loadR_some partV_none partV_all partV_some storeV_rf setR_one setR_all cellsOf_ag cellsOf_i cellsOf_b cellsOf_sl cellsOf_z cellsOf_er cellsOf_nl cellsOf_np cellsOf_s mkSV_of mkRS_of fl_map fl_kill fl_frz fl_enterS fl_enterL fl_lentOf fl_toArg fl_isRs fl_toRet fl_from1 fl_from fl_cells fl_countR nums_length nums_get nums_set nums_append nums_snoc nums_drop nums_take nums_zrep nums_hasSl bools_length bools_get bools_set bools_snoc bools_zrep bools_hasSl vecs_length vecs_get vecs_snoc slcV_sl idxO idx Nat.zero_add Nat.mul_one Nat.add_zero stepsAt_some onSome_some onB_true onB_false onG_tt onG_tf onG_ft onG_ff onG_un optPut_some optMem_some

theorem fMod (a : Int) {p : Int} (h : Right p) : FF tab 73 [.i .i64 a, .i .i64 p] = some ⟨.i .i64 (a % p), []⟩ := by
  refine call_by (A := A73) rfl rfl ?_
  have lo := h.lo
  have hi := h.hi
  have h0 : p ≠ 0 := by omega
  have h1 := Int.emod_nonneg a h0
  have h2 := Int.emod_lt_of_pos a (show 0 < p by omega)
  have w2 : IntKind.i64.wrap (a % p) = a % p := i64_in _ (by omega)
  rcases tmod_two a (show 0 < p by omega) with ⟨g1, g2⟩ | ⟨g1, g2⟩
  · simp (disch := first | assumption | omega | (simp only [List.length_cons, List.length_nil, List.length_set, List.length_append, List.length_replicate, List.length_map, List.length_range, List.length_take, List.length_drop, nums_length, bools_length, vecs_length]; first | done | omega)) [A73, h0, g2]
  · simp (disch := first | assumption | omega | (simp only [List.length_cons, List.length_nil, List.length_set, List.length_append, List.length_replicate, List.length_map, List.length_range, List.length_take, List.length_drop, nums_length, bools_length, vecs_length]; first | done | omega)) [A73, h0, g2, w2]
theorem fMul {a b p : Int} (h : Right p) (a0 : 0 ≤ a) (a1 : a < p) (b0 : 0 ≤ b) (b1 : b < p) : FF tab 76 [.i .i64 a, .i .i64 b, .i .i64 p] = some ⟨.i .i64 (a * b % p), []⟩ := by
  refine call_by (A := A76) rfl rfl ?_
  have lo := h.lo
  have h0 : p ≠ 0 := by omega
  have hb := prod_bound h a0 a1 b0 b1
  have w : IntKind.i64.wrap (a * b) = a * b := i64_in _ (by omega)
  have e : (a * b).tmod p = a * b % p := Int.tmod_eq_emod_of_nonneg hb.1
  simp (disch := first | assumption | omega | (simp only [List.length_cons, List.length_nil, List.length_set, List.length_append, List.length_replicate, List.length_map, List.length_range, List.length_take, List.length_drop, nums_length, bools_length, vecs_length]; first | done | omega)) [A76, h0, w, e]
theorem fCenter (a : Int) {p : Int} (h : Right p) : FF tab 43 [.i .i64 a, .i .i64 p] = some ⟨.i .i64 (cen p a), []⟩ := by
  refine call_by (A := A43) rfl rfl ?_
  have lo := h.lo
  have hi := h.hi
  have a0 := Int.emod_nonneg a (show p ≠ 0 by omega)
  have a1 := Int.emod_lt_of_pos a (show 0 < p by omega)
  have e1 : (p - 1).tdiv 2 = (p - 1) / 2 := Int.tdiv_eq_ediv_of_nonneg (by omega)
  have w1 : IntKind.i64.wrap (p - 1) = p - 1 := i64_in _ (by omega)
  have w2 : IntKind.i64.wrap ((p - 1) / 2) = (p - 1) / 2 := i64_in _ (by omega)
  have w3 : IntKind.i64.wrap (a % p - p) = a % p - p := i64_in _ (by omega)
  have hm := fMod a h
  unfold cen
  by_cases hc : (p - 1) / 2 < a % p
  · rw [if_pos hc]
    simp (disch := first | assumption | omega | (simp only [List.length_cons, List.length_nil, List.length_set, List.length_append, List.length_replicate, List.length_map, List.length_range, List.length_take, List.length_drop, nums_length, bools_length, vecs_length]; first | done | omega)) [A43, hm, e1, w1, w2, w3, hc]
  · rw [if_neg hc]
    simp (disch := first | assumption | omega | (simp only [List.length_cons, List.length_nil, List.length_set, List.length_append, List.length_replicate, List.length_map, List.length_range, List.length_take, List.length_drop, nums_length, bools_length, vecs_length]; first | done | omega)) [A43, hm, e1, w1, w2, w3, hc]
theorem mx2 (a b : Int) : maxV (.i .i64 a) [.i .i64 b] = some (.i .i64 (max a b)) := by
  simp only [maxV, decide_true, cond_true]
  congr 2
  split <;> omega
theorem fAbs (a : Int) (h : -9223372036854775808 < a ∧ a < 9223372036854775808) : FF tab 42 [.i .i64 a] = some ⟨.i .i64 (absI a), []⟩ := by
  refine call_by (A := A42) rfl rfl ?_
  have w1 : IntKind.i64.wrap (-a) = -a := i64_in _ (by omega)
  simp (disch := first | assumption | omega | (simp only [List.length_cons, List.length_nil, List.length_set, List.length_append, List.length_replicate, List.length_map, List.length_range, List.length_take, List.length_drop, nums_length, bools_length, vecs_length]; first | done | omega)) [A42, w1, mx2, absI]
theorem fPrimes : FF tab 92 [] = some ⟨slv .i64 [17, 97, 257, 3329, 7681, 12289, 8380417], []⟩ := by
  refine call_by (A := A92) rfl rfl ?_
  simp (disch := first | assumption | omega | (simp only [List.length_cons, List.length_nil, List.length_set, List.length_append, List.length_replicate, List.length_map, List.length_range, List.length_take, List.length_drop, nums_length, bools_length, vecs_length]; first | done | omega)) [A92]
  rfl
theorem fIs (p : Int) : FF tab 65 [.i .i64 p] = some ⟨.b (decide (Right p)), []⟩ := by
  refine call_by (A := A65) rfl rfl ?_
  have hH := Has (IsL.mk .i64 [17, 97, 257, 3329, 7681, 12289, 8380417]) (by simp) p
  have e : decide (p ∈ [17, 97, 257, 3329, 7681, 12289, 8380417]) = decide (Right p) := by
    unfold Right; congr 1; simp
  rw [e] at hH
  simp only [slv] at hH
  have hP := fPrimes
  simp only [slv] at hP
  generalize nums .i64 [17, 97, 257, 3329, 7681, 12289, 8380417] = cs at *
  generalize ([17, 97, 257, 3329, 7681, 12289, 8380417] : List Int).length = m at *
  simp (disch := first | assumption | omega | (simp only [List.length_cons, List.length_nil, List.length_set, List.length_append, List.length_replicate, List.length_map, List.length_range, List.length_take, List.length_drop, nums_length, bools_length, vecs_length]; first | done | omega)) [A65, hP, hH]
theorem fValid (q n : Int) : FF tab 21 [(.ag [.i .i64 (q), .i .i64 (n)])] = some ⟨.i .i64 (valid q n), []⟩ := by
  refine call_by (A := A21) rfl rfl ?_
  have hI := fIs q
  have hH := Has (IsL.mk .i64 [4, 8, 16, 32, 64, 128, 256]) (by simp) n
  have e : decide (n ∈ [4, 8, 16, 32, 64, 128, 256]) = decide (Deg n) := by
    unfold Deg; congr 1; simp
  rw [e] at hH
  have hH' : FF tab 66 [.sl [.i .i64 4, .i .i64 8, .i .i64 16, .i .i64 32, .i .i64 64, .i .i64 128, .i .i64 256] 7, .i .i64 n] = some ⟨.b (decide (Deg n)), []⟩ := hH
  by_cases hq : Right q
  · by_cases hd : Deg n
    · simp (disch := first | assumption | omega | (simp only [List.length_cons, List.length_nil, List.length_set, List.length_append, List.length_replicate, List.length_map, List.length_range, List.length_take, List.length_drop, nums_length, bools_length, vecs_length]; first | done | omega)) [A21, hI, hq, hH', hd, valid]
    · simp (disch := first | assumption | omega | (simp only [List.length_cons, List.length_nil, List.length_set, List.length_append, List.length_replicate, List.length_map, List.length_range, List.length_take, List.length_drop, nums_length, bools_length, vecs_length]; first | done | omega)) [A21, hI, hq, hH', hd, valid]
  · simp (disch := first | assumption | omega | (simp only [List.length_cons, List.length_nil, List.length_set, List.length_append, List.length_replicate, List.length_map, List.length_range, List.length_take, List.length_drop, nums_length, bools_length, vecs_length]; first | done | omega)) [A21, hI, hq, valid]
set_option maxHeartbeats 1000000 in
theorem fVector (q n : Int) {x : AV} {L : List Int} (hx : IsL .i64 x L) (hL : L.length < 9223372036854775807) : FF tab 23 [(.ag [.i .i64 (q), .i .i64 (n)]), x] = some ⟨.i .i64 (vecBad q n L), []⟩ := by
  refine call_by (A := A23) rfl rfl ?_
  have fx := hx.flat
  have hV := fValid q n
  have hlen := lenV_isL hx
  by_cases hv : valid q n = 0
  · rw [hv] at hV
    by_cases hn : (L.length : Int) = n
    · have hb : vecBad q n L = if Mods q L then 0 else 101 := by simp [vecBad, hv, hn]
      simp (disch := first | assumption | omega | (simp only [List.length_cons, List.length_nil, List.length_set, List.length_append, List.length_replicate, List.length_map, List.length_range, List.length_take, List.length_drop, nums_length, bools_length, vecs_length]; first | done | omega)) [A23, hV, hlen, hn]
      refine w_headsP L.length (fun k => ⟨[(6, .i .i64 k), (2, .rf 2 0), (1, x)], [(2, [.i .i64 q, .i .i64 n])]⟩) (fun k => ∀ j, j < k → 0 ≤ ni L j ∧ ni L j < q) (by simp (disch := first | assumption | omega | (simp only [List.length_cons, List.length_nil, List.length_set, List.length_append, List.length_replicate, List.length_map, List.length_range, List.length_take, List.length_drop, nums_length, bools_length, vecs_length]; first | done | omega)) []) (fun j h => by omega) ?_ ?_
      · intro k hk hp
        have w1 : IntKind.i64.wrap ((k : Int) + 1) = (k : Int) + 1 := i64_in _ (by omega)
        have hkn : (k : Int).toNat = k := Int.toNat_natCast _
        have hix := ixSV_isL hx (k' := .i64) (j := (k : Int)) (by omega) (by omega)
        rw [hkn] at hix
        have hget := nums_get (k := .i64) hk
        have hlt : (k : Int) < n := by omega
        generalize hT : (k : Int) = T at *
        by_cases h1 : ni L k < 0
        · have hm : ¬ Mods q L := fun h => by have := mods_at h hk; omega
          rw [hb, if_neg hm]
          simp (disch := first | assumption | omega | (simp only [List.length_cons, List.length_nil, List.length_set, List.length_append, List.length_replicate, List.length_map, List.length_range, List.length_take, List.length_drop, nums_length, bools_length, vecs_length]; first | done | omega)) [hlen, hix, hget, h1]
        · by_cases h2 : q ≤ ni L k
          · have hm : ¬ Mods q L := fun h => by have := mods_at h hk; omega
            rw [hb, if_neg hm]
            simp (disch := first | assumption | omega | (simp only [List.length_cons, List.length_nil, List.length_set, List.length_append, List.length_replicate, List.length_map, List.length_range, List.length_take, List.length_drop, nums_length, bools_length, vecs_length]; first | done | omega)) [hlen, hix, hget, h1, h2]
          · simp (disch := first | assumption | omega | (simp only [List.length_cons, List.length_nil, List.length_set, List.length_append, List.length_replicate, List.length_map, List.length_range, List.length_take, List.length_drop, nums_length, bools_length, vecs_length]; first | done | omega)) [hlen, hix, hget, w1, hT, h1, h2]
            intro j hj
            by_cases e : j = k
            · subst e; omega
            · exact hp j (by omega)
      · intro hp
        rw [hb, if_pos (mods_step hp)]
        simp (disch := first | assumption | omega | (simp only [List.length_cons, List.length_nil, List.length_set, List.length_append, List.length_replicate, List.length_map, List.length_range, List.length_take, List.length_drop, nums_length, bools_length, vecs_length]; first | done | omega)) [hlen]
    · have hb : vecBad q n L = 102 := by simp [vecBad, hv, hn]
      rw [hb]
      simp (disch := first | assumption | omega | (simp only [List.length_cons, List.length_nil, List.length_set, List.length_append, List.length_replicate, List.length_map, List.length_range, List.length_take, List.length_drop, nums_length, bools_length, vecs_length]; first | done | omega)) [A23, hV, hlen, hn]
  · have hb : vecBad q n L = 101 := by simp [vecBad, hv]
    have hv' : valid q n = 101 := by unfold valid at hv ⊢; split at hv <;> simp_all
    rw [hv'] at hV
    rw [hb]
    simp (disch := first | assumption | omega | (simp only [List.length_cons, List.length_nil, List.length_set, List.length_append, List.length_replicate, List.length_map, List.length_range, List.length_take, List.length_drop, nums_length, bools_length, vecs_length]; first | done | omega)) [A23, hV]
end Zab.YtcebddjidpbhgaaDoorB
