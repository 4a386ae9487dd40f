/- Products there. -/
import Derived.Test.YtcebddjidpbhgaaDoorBNttF
namespace Zab.YtcebddjidpbhgaaDoorB
open Go
open Go.IntWalk (i64_in)
set_option maxRecDepth 100000
set_option linter.unusedSimpArgs false
set_option linter.unusedVariables false
attribute [-simp] getElem?_pos
attribute [local simp ↓] W_loop W_seq W_skip W_ret W_exit W_reg W_cond W_block W_pre cleanO_some freezes_nil freezes_cons frzO_some andThen_normal andThen_ret andThen_exit unblock_normal unblock_ret unblock_exit Ends_normal Ends_ret steps_nil steps_cons step_some st_move st_pick st_bin st_un st_conv st_addr sv_ixA sv_ixS sv_fld sv_ixV st_ixStr st_ext sv_build sv_bsl sv_mkS st_mkfn sv_lenS sv_len st_mn st_mx st_nilChk st_tas st_slc sv_loadg sv_load st_call sv_store sv_box sv_alloc sv_mkR sv_bslR sv_nilR sv_app sv_callK stepsAt_some onSome_some onB_true onB_false onG_tt onG_tf onG_ft onG_ff onG_un optPut_some optMem_some
attribute [local simp] evalO evalL constAV get_cons get_nil put_cons put_nil look_cons look_nil putD_some clean_mk freeze_mk mapS del_cons del_nil keepS_cons keepS_nil keepL_cons keepL_nil memb_cons memb_nil unV pureV convV_i addrV toArgs anyRs hasSl2L fromRetL finR resL resV toRets one Nat.beq Nat.ble shiftV_shr shiftV_shl IntKind.bits fillV List.getElem?_cons_zero List.getElem?_cons_succ List.length_cons List.length_nil List.set_cons_zero List.set_cons_succ setR2 setR3 zrep_eqs binV_i binI_shl binI_shr binI_eqs binV_eqs binV_slcE binV_slcN lendsC_some lends_nil lends_eqs fl_lends lends_rf lendsR_some lends_rs lendsS_some seesAny_no callK1_fn callK2_some callK3_some recvPut_some afterK_some afterK_none putAll_nil putAll_cons hasSlLL_nil hasSlLL_cons recv_os recv_op recv_no recvV_some recv_tp recvT_os recvT_op srcV_rs srcR_some List.append_nil intV_quo intV_rem hasSlL mapR_eqs kill1_eqs frz1_eqs enterS_eqs enterL_eqs isRs_eqs toArg_eqs from1_eqs from_eqs toRet_eqs lentOf_eqs countR_eqs hasSl1_eqs hasSl2_eqs hasSl_eqs cellsOf_ag1 cellsOf_ag2 cellsOf_ag3 cellsOf_ag4 cellsOf_ag5 partV_2 partV_3 partV_4 partV_5 toRet_own ownR_of toArg_rs seenR_all seenR_part appS_rs appR_of srcV_sl srcV_z nilS_z bslS_some dec_t dec_f buildV_some bslV_some boxS_some root_mk ixSV_sl ixSV_rs ixAV_rf ixAV_el ixVV_ag fldV_ag lenV_sl lenV_rs lenV_z lenSV_s loadV_rf loadV_el loadR_some partV_none partV_all partV_some storeV_rf setR_one setR_all cellsOf_ag cellsOf_i cellsOf_b cellsOf_sl cellsOf_z cellsOf_er cellsOf_nl cellsOf_np cellsOf_s mkSV_of mkRS_of fl_map fl_kill fl_frz fl_enterS fl_enterL fl_lentOf fl_toArg fl_isRs fl_toRet fl_from1 fl_from fl_cells fl_countR nums_length nums_get nums_set nums_append nums_snoc nums_drop nums_take nums_zrep nums_hasSl bools_length bools_get bools_set bools_snoc bools_zrep bools_hasSl vecs_length vecs_get vecs_snoc slcV_sl idxO idx Nat.zero_add Nat.mul_one Nat.add_zero stepsAt_some onSome_some onB_true onB_false onG_tt onG_tf onG_ft onG_ff onG_un optPut_some optMem_some

/-- One part of a product. -/
noncomputable def partL (q n : Int) (L M : List Int) (p : Nat) : List Int := (List.range (mlen q n)).map fun c => sumTo (fun i => tmz (rt q n ^ (2 * revN (dep q n) p + 1) % q) (fun i => ni L (p * mlen q n + i)) (fun i => ni M (p * mlen q n + i)) (mlen q n) i c) (mlen q n) % q
theorem partL_len (q n : Int) (L M : List Int) (p : Nat) : (partL q n L M p).length = mlen q n := by simp [partL]
/-- The first parts. -/
noncomputable def timesTo (q n : Int) (L M : List Int) : Nat → List Int
  | 0 => []
  | p + 1 => timesTo q n L M p ++ partL q n L M p
theorem timesTo_len (q n : Int) (L M : List Int) : ∀ p, (timesTo q n L M p).length = p * mlen q n
  | 0 => by simp [timesTo]
  | p + 1 => by rw [timesTo, List.length_append, timesTo_len q n L M p, partL_len, Nat.add_mul, Nat.one_mul]
/-- A product there. -/
noncomputable def timesL (q n : Int) (L M : List Int) : List Int := timesTo q n L M (2 ^ dep q n)
theorem timesTo_ni (q n : Int) (L M : List Int) {c : Nat} (hc : c < mlen q n) : ∀ {k p : Nat}, p < k → ni (timesTo q n L M k) (p * mlen q n + c) = ni (partL q n L M p) c
  | k + 1, p, h => by
    rw [timesTo, ni_app, timesTo_len]
    by_cases e : p = k
    · subst e
      rw [if_neg (by omega)]
      congr 1; omega
    · have : (p + 1) * mlen q n ≤ k * mlen q n := Nat.mul_le_mul_right _ (by omega)
      rw [Nat.add_mul, Nat.one_mul] at this
      rw [if_pos (by omega)]
      exact timesTo_ni q n L M hc (by omega)

theorem nTimes_bad (q n : Int) {x y : AV} {L M : List Int} (hx : IsL .i64 x L) (hy : IsL .i64 y M) (hsL : L.length < 9223372036854775807) (hsM : M.length < 9223372036854775807) (hb : vecsBad q n [L, M] ≠ 0) : FF tab 61 [(.ag [.i .i64 (q), .i .i64 (n)]), x, y] = some ⟨.tp [.z, errV (vecsBad q n [L, M])], []⟩ := by
  refine call_by (A := A61) rfl rfl ?_
  have fx := hx.flat
  have fy := hy.flat
  have h1 := rVector q n hx hsL
  have h2 := rVector q n hy hsM
  have c1 := vecBad_code q n L
  have c2 := vecBad_code q n M
  have e1 := errV_ne c1
  have e2 := errV_ne c2
  have f1 := errV_flat (vecBad q n L)
  have f2 := errV_flat (vecBad q n M)
  simp (disch := first | assumption | omega | (simp only [List.length_cons, List.length_nil, List.length_set, List.length_append, List.length_replicate, List.length_map, List.length_range, List.length_take, List.length_drop, nums_length, bools_length, vecs_length]; first | done | omega)) [A61]
  by_cases hL : vecBad q n L = 0
  · have hM : vecBad q n M ≠ 0 := fun h => hb (vecsBad_two.2 ⟨hL, h⟩)
    have e : vecsBad q n [L, M] = vecBad q n M := by simp only [vecsBad, hL, if_true]; rw [if_neg hM]
    rw [e]
    rw [hL, show errV 0 = .nl from rfl] at h1
    generalize vecBad q n M = c at *
    refine w_heads 1 (fun k => ⟨[(26, .i .i64 k), (25, .i .i64 2), (24, .sl [x, y] 2), (3, .rf 3 0), (2, y), (1, x)], [(3, [.i .i64 q, .i .i64 n])]⟩) (by simp (disch := first | assumption | omega | (simp only [List.length_cons, List.length_nil, List.length_set, List.length_append, List.length_replicate, List.length_map, List.length_range, List.length_take, List.length_drop, nums_length, bools_length, vecs_length]; first | done | omega)) []) ?_ ?_
    · intro k hk
      have : k = 0 := by omega
      subst this
      simp (disch := first | assumption | omega | (simp only [List.length_cons, List.length_nil, List.length_set, List.length_append, List.length_replicate, List.length_map, List.length_range, List.length_take, List.length_drop, nums_length, bools_length, vecs_length]; first | done | omega)) [h1, show IntKind.i64.wrap 1 = 1 from rfl]
    · simp (disch := first | assumption | omega | (simp only [List.length_cons, List.length_nil, List.length_set, List.length_append, List.length_replicate, List.length_map, List.length_range, List.length_take, List.length_drop, nums_length, bools_length, vecs_length]; first | done | omega)) [h2, e2, hM]
  · have e : vecsBad q n [L, M] = vecBad q n L := by simp only [vecsBad]; rw [if_neg hL]
    rw [e]
    generalize vecBad q n L = c at *
    refine w_heads 0 (fun k => ⟨[(26, .i .i64 0), (25, .i .i64 2), (24, .sl [x, y] 2), (3, .rf 3 0), (2, y), (1, x)], [(3, [.i .i64 q, .i .i64 n])]⟩) (by simp (disch := first | assumption | omega | (simp only [List.length_cons, List.length_nil, List.length_set, List.length_append, List.length_replicate, List.length_map, List.length_range, List.length_take, List.length_drop, nums_length, bools_length, vecs_length]; first | done | omega)) []) (fun k hk => by omega) ?_
    simp (disch := first | assumption | omega | (simp only [List.length_cons, List.length_nil, List.length_set, List.length_append, List.length_replicate, List.length_map, List.length_range, List.length_take, List.length_drop, nums_length, bools_length, vecs_length]; first | done | omega)) [h1, e1, hL]

set_option maxHeartbeats 8000000 in
theorem nTimes (q n : Int) {x y : AV} {L M : List Int} (hx : IsL .i64 x L) (hy : IsL .i64 y M) (hL : vecBad q n L = 0) (hM : vecBad q n M = 0) : FF tab 61 [(.ag [.i .i64 (q), .i .i64 (n)]), x, y] = some ⟨.tp [.os (nums .i64 (timesL q n L M)) L.length 1, .nl], []⟩ := by
  obtain ⟨hq, hd, hn, hm⟩ := vecBad_zero.1 hL
  obtain ⟨_, _, hn2, hm2⟩ := vecBad_zero.1 hM
  have h1 := rVector q n hx (by have := vecBad_len hL; omega)
  have h2 := rVector q n hy (by have := vecBad_len hM; omega)
  rw [hL, show errV 0 = .nl from rfl] at h1
  rw [hM, show errV 0 = .nl from rfl] at h2
  refine call_by (A := A61) rfl rfl ?_
  have fx := hx.flat
  have fy := hy.flat
  have hR := nRoot hq hd
  obtain ⟨d1, d2, h3, h4, _⟩ := dep_ok hq hd
  have lo := hq.lo
  have hi := hq.hi
  have dlo := hd.lo
  have dhi := hd.hi
  have hmN : n.toNat = mlen q n * 2 ^ dep q n := h3
  have hm0 : 0 < mlen q n := h4
  have hl2 := pow_le d2
  have shD := shl_one (d := dep q n) (by omega)
  have hmn : n.toNat / 2 ^ dep q n = mlen q n := rfl
  have srD := shr_by (a := n.toNat) (d := dep q n) (by omega)
  rw [hmn, Int.toNat_of_nonneg (by omega)] at srD
  have hpl := partL_len q n L M
  have htl := timesTo_len q n L M
  have hts : ∀ p, timesTo q n L M p ++ partL q n L M p = timesTo q n L M (p + 1) := fun p => rfl
  unfold timesL
  have hrow : ∀ p, rowZ q (rt q n ^ (2 * revN (dep q n) p + 1) % q) (fun i => ni L (p * mlen q n + i)) (fun i => ni M (p * mlen q n + i)) (mlen q n) (mlen q n) 0 = partL q n L M p := fun p => rowZ_end _ _ _ _ _
  have hrev : ∀ p : Nat, p < 2 ^ dep q n → FF tab 74 [.i .i64 p, .i .i64 (dep q n)] = some ⟨.i .i64 (revN (dep q n) p), []⟩ := fun p hp => nRev (by omega) (by omega)
  have hpow : ∀ p : Nat, p < 2 ^ dep q n → 2 * revN (dep q n) p + 1 < 1000 ∧ FF tab 75 [.i .i64 (rt q n), .i .i64 ((2 * revN (dep q n) p + 1 : Nat) : Int), .i .i64 q] = some ⟨.i .i64 (rt q n ^ (2 * revN (dep q n) p + 1) % q), []⟩ := fun p hp => by
    have hl := revN_lt p (dep q n)
    have := Pow (rt q n) hq (e := ((2 * revN (dep q n) p + 1 : Nat) : Int)) (by omega) (by omega)
    rw [Int.toNat_natCast] at this
    exact ⟨by omega, this⟩
  have hpt : ∀ p, p < 2 ^ dep q n → p * mlen q n + mlen q n ≤ L.length := fun p hp => by
    have : (p + 1) * mlen q n ≤ 2 ^ dep q n * mlen q n := Nat.mul_le_mul_right _ hp
    rw [Nat.add_mul, Nat.one_mul, Nat.mul_comm (2 ^ dep q n), ← hmN] at this; omega
  generalize hW : (fun p => rt q n ^ (2 * revN (dep q n) p + 1) % q) = Wf at *
  have hWp : ∀ p, rt q n ^ (2 * revN (dep q n) p + 1) % q = Wf p := fun p => by rw [← hW]
  simp only [hWp] at hrow hpow
  generalize timesTo q n L M = TT at *
  generalize partL q n L M = PP at *
  generalize mlen q n = m at *
  generalize rt q n = g at *
  generalize dep q n = D at *
  generalize hQ : 2 ^ D = Q at *
  clear hW hWp
  have hT0 : TT 0 = [] := by
    have := htl 0
    rw [Nat.zero_mul] at this
    exact List.length_eq_zero_iff.1 this
  simp (disch := first | assumption | omega | (simp only [List.length_cons, List.length_nil, List.length_set, List.length_append, List.length_replicate, List.length_map, List.length_range, List.length_take, List.length_drop, nums_length, bools_length, vecs_length]; first | done | omega)) [A61]
  refine w_heads 2 (fun k => ⟨[(26, .i .i64 k), (25, .i .i64 2), (24, .sl [x, y] 2), (3, .rf 3 0), (2, y), (1, x)], [(3, [.i .i64 q, .i .i64 n])]⟩) (by simp (disch := first | assumption | omega | (simp only [List.length_cons, List.length_nil, List.length_set, List.length_append, List.length_replicate, List.length_map, List.length_range, List.length_take, List.length_drop, nums_length, bools_length, vecs_length]; first | done | omega)) []) ?_ ?_
  · intro k hk
    have : k = 0 ∨ k = 1 := by omega
    rcases this with rfl | rfl
    · simp (disch := first | assumption | omega | (simp only [List.length_cons, List.length_nil, List.length_set, List.length_append, List.length_replicate, List.length_map, List.length_range, List.length_take, List.length_drop, nums_length, bools_length, vecs_length]; first | done | omega)) [h1, show IntKind.i64.wrap 1 = 1 from rfl]
    · simp (disch := first | assumption | omega | (simp only [List.length_cons, List.length_nil, List.length_set, List.length_append, List.length_replicate, List.length_map, List.length_range, List.length_take, List.length_drop, nums_length, bools_length, vecs_length]; first | done | omega)) [h2, show IntKind.i64.wrap 2 = 2 from rfl]
  · have zr : zrep [AV.i .i64 0] 0 = [] := rfl
    simp (disch := first | assumption | omega | (simp only [List.length_cons, List.length_nil, List.length_set, List.length_append, List.length_replicate, List.length_map, List.length_range, List.length_take, List.length_drop, nums_length, bools_length, vecs_length]; first | done | omega)) [hR, srD, shD, zr, -shiftV_shl, -shiftV_shr]
    refine w_heads Q (fun p => ⟨[(55, .i .i64 p), (54, .i .i64 Q), (15, .rs 52 0 (p * m) 1), (14, .i .i64 m), (12, .i .i64 D), (11, .i .i64 g), (3, .rf 3 0), (2, y), (1, x)], [(52, nums .i64 (TT p)), (3, [.i .i64 q, .i .i64 n])]⟩) (by rw [hT0]; simp (disch := first | assumption | omega | (simp only [List.length_cons, List.length_nil, List.length_set, List.length_append, List.length_replicate, List.length_map, List.length_range, List.length_take, List.length_drop, nums_length, bools_length, vecs_length]; first | done | omega)) [nums_nil]) ?_ ?_
    · intro p hp
      have wp : IntKind.i64.wrap ((p : Int) + 1) = (p : Int) + 1 := i64_in _ (by omega)
      have hpQ : (p : Int) < (Q : Int) := by omega
      have r1 := hrev p hp
      obtain ⟨r0, r2⟩ := hpow p hp
      have hpm := hpt p hp
      have rw1 : IntKind.i64.wrap (2 * (revN D p : Int)) = 2 * (revN D p : Int) := i64_in _ (by omega)
      have rw2 : IntKind.i64.wrap (2 * (revN D p : Int) + 1) = ((2 * revN D p + 1 : Nat) : Int) := i64_in _ (by omega)
      have hro := hrow p
      have hpp := hpl p
      have htp := htl p
      have htp1 := htl (p + 1)
      have htt := hts p
      have hA : ∀ i, i < m → 0 ≤ ni L (p * m + i) ∧ ni L (p * m + i) < q := fun i hi => mods_at hm (by omega)
      have hz0 := rowZ_zero q (Wf p) (fun i => ni L (p * m + i)) (fun i => ni M (p * m + i)) m
      have hpms : IntKind.i64.wrap ((p : Int) * (m : Int)) = ((p * m : Nat) : Int) := by
        rw [← Int.natCast_mul]; exact i64_in _ (by omega)
      have hpm1 : (p + 1) * m = p * m + m := by rw [Nat.add_mul, Nat.one_mul]
      rw [hpm1] at htp1
      clear hrev hpow hpt hrow hpl htl hts
      generalize TT (p + 1) = T1 at *
      generalize TT p = T0 at *
      generalize PP p = Pp at *
      generalize ((2 * revN D p + 1 : Nat) : Int) = E at *
      generalize revN D p = R at *
      generalize Wf p = w at *
      generalize p * m = U at *
      simp (disch := first | assumption | omega | (simp only [List.length_cons, List.length_nil, List.length_set, List.length_append, List.length_replicate, List.length_map, List.length_range, List.length_take, List.length_drop, nums_length, bools_length, vecs_length]; first | done | omega)) [r1, r2, rw1, rw2, hpQ, -shiftV_shl, -shiftV_shr]
      refine w_heads m (fun i => ⟨[(70, .i .i64 i), (69, .i .i64 m), (55, .i .i64 p), (54, .i .i64 Q), (18, .rs 68 0 m 1), (17, .i .i64 w), (16, .i .i64 p), (15, .rs 52 0 U 1), (14, .i .i64 m), (12, .i .i64 D), (11, .i .i64 g), (3, .rf 3 0), (2, y), (1, x)], [(68, nums .i64 (rowZ q w (fun i => ni L (U + i)) (fun i => ni M (U + i)) m i 0)), (52, nums .i64 T0), (3, [.i .i64 q, .i .i64 n])]⟩) (by rw [hz0]; simp (disch := first | assumption | omega | (simp only [List.length_cons, List.length_nil, List.length_set, List.length_append, List.length_replicate, List.length_map, List.length_range, List.length_take, List.length_drop, nums_length, bools_length, vecs_length]; first | done | omega)) []) ?_ ?_
      · intro i hi'
        have wi : IntKind.i64.wrap ((i : Int) + 1) = (i : Int) + 1 := i64_in _ (by omega)
        have him : (i : Int) < (m : Int) := by omega
        have hnx := rowZ_next q w (fun i => ni L (U + i)) (fun i => ni M (U + i)) hi'
        simp (disch := first | assumption | omega | (simp only [List.length_cons, List.length_nil, List.length_set, List.length_append, List.length_replicate, List.length_map, List.length_range, List.length_take, List.length_drop, nums_length, bools_length, vecs_length]; first | done | omega)) [him, -shiftV_shl, -shiftV_shr]
        refine w_heads m (fun j => ⟨[(74, .i .i64 j), (73, .i .i64 m), (70, .i .i64 i), (69, .i .i64 m), (55, .i .i64 p), (54, .i .i64 Q), (19, .i .i64 i), (18, .rs 68 0 m 1), (17, .i .i64 w), (16, .i .i64 p), (15, .rs 52 0 U 1), (14, .i .i64 m), (12, .i .i64 D), (11, .i .i64 g), (3, .rf 3 0), (2, y), (1, x)], [(68, nums .i64 (rowZ q w (fun i => ni L (U + i)) (fun i => ni M (U + i)) m i j)), (52, nums .i64 T0), (3, [.i .i64 q, .i .i64 n])]⟩) (by simp (disch := first | assumption | omega | (simp only [List.length_cons, List.length_nil, List.length_set, List.length_append, List.length_replicate, List.length_map, List.length_range, List.length_take, List.length_drop, nums_length, bools_length, vecs_length]; first | done | omega)) []) ?_ ?_
        · intro j hj
          have wj : IntKind.i64.wrap ((j : Int) + 1) = (j : Int) + 1 := i64_in _ (by omega)
          have hjm : (j : Int) < (m : Int) := by omega
          have v1 : IntKind.i64.wrap ((U : Int) + (i : Int)) = ((U + i : Nat) : Int) := i64_in _ (by omega)
          have v2 : IntKind.i64.wrap ((U : Int) + (j : Int)) = ((U + j : Nat) : Int) := i64_in _ (by omega)
          have v3 : IntKind.i64.wrap ((i : Int) + (j : Int)) = (i : Int) + (j : Int) := i64_in _ (by omega)
          have ix := ixSV_isL hx (k' := .i64) (j := ((U + i : Nat) : Int)) (by omega) (by omega)
          have iy := ixSV_isL hy (k' := .i64) (j := ((U + j : Nat) : Int)) (by omega) (by omega)
          rw [Int.toNat_natCast] at ix iy
          have gx := nums_get (k := .i64) (L := L) (j := U + i) (by omega)
          have gy := nums_get (k := .i64) (L := M) (j := U + j) (by omega)
          have m1 := Mul (ni L (U + i)) (ni M (U + j)) hq
          have m2 := Mul (ni L (U + i) * ni M (U + j) % q) w hq
          have hij : ((i : Int) + (j : Int)).tmod (m : Int) = (((i + j) % m : Nat) : Int) := by
            rw [Int.tmod_eq_emod_of_nonneg (by omega)]; rfl
          have hm00 : (m : Int) ≠ 0 := by omega
          have hrl := rowZ_len q w (fun i => ni L (U + i)) (fun i => ni M (U + i)) m i j
          have hcm : (i + j) % m < m := Nat.mod_lt _ hm0
          have hcz : 0 ≤ (((i + j) % m : Nat) : Int) ∧ (((i + j) % m : Nat) : Int) < (m : Int) := by omega
          have htc : (((i + j) % m : Nat) : Int).toNat = (i + j) % m := Int.toNat_natCast _
          have gr := nums_get (k := .i64) (L := rowZ q w (fun i => ni L (U + i)) (fun i => ni M (U + i)) m i j) (j := (i + j) % m) (by omega)
          by_cases hc : (m : Int) ≤ (i : Int) + (j : Int)
          · obtain ⟨t1, t2, t3⟩ := tmz_high (w := w) (A := fun i => ni L (U + i)) (B := fun i => ni M (U + i)) hi' hj (by omega)
            have hset := rowZ_set (q := q) (w := w) (A := fun i => ni L (U + i)) (B := fun i => ni M (U + i)) (v := ni L (U + i) * ni M (U + j) % q * w % q) hi' hj (show i + j - m < m by omega) t2 (by
              rw [t3, Int.mul_comm w]
              exact (Eqm.mod _ _).trans ((Eqm.mod _ _).mul Eqm.rfl))
            rw [← t1] at hset
            have m3 := Add (ni (rowZ q w (fun i => ni L (U + i)) (fun i => ni M (U + i)) m i j) ((i + j) % m)) (ni L (U + i) * ni M (U + j) % q * w % q) hq
            generalize ((U + i : Nat) : Int) = Ui at *
            generalize ((U + j : Nat) : Int) = Uj at *
            generalize (((i + j) % m : Nat) : Int) = C' at *
            generalize (i + j) % m = C at *
            generalize (ni (rowZ q w (fun i => ni L (U + i)) (fun i => ni M (U + i)) m i j) C + ni L (U + i) * ni M (U + j) % q * w % q) % q = V3 at *
            generalize ni (rowZ q w (fun i => ni L (U + i)) (fun i => ni M (U + i)) m i j) C = V4 at *
            generalize rowZ q w (fun i => ni L (U + i)) (fun i => ni M (U + i)) m i (j + 1) = M2 at *
            generalize rowZ q w (fun i => ni L (U + i)) (fun i => ni M (U + i)) m i j = M1 at *
            generalize ni L (U + i) * ni M (U + j) % q * w % q = V2 at *
            generalize ni L (U + i) * ni M (U + j) % q = V1 at *
            generalize ni L (U + i) = X at *
            generalize ni M (U + j) = Y at *
            clear t1 t2 t3
            generalize hJ : (j : Int) = J at *
            simp (disch := first | assumption | omega | (simp only [List.length_cons, List.length_nil, List.length_set, List.length_append, List.length_replicate, List.length_map, List.length_range, List.length_take, List.length_drop, nums_length, bools_length, vecs_length]; first | done | omega)) [hjm, hpms, v1, v2, v3, ix, iy, gx, gy, m1, m2, m3, hij, hm00, htc, gr, hc, wj, nums_set, hset, hJ, -shiftV_shl, -shiftV_shr]
          · obtain ⟨t1, t2, t3⟩ := tmz_low (w := w) (A := fun i => ni L (U + i)) (B := fun i => ni M (U + i)) (show i + j < m by omega)
            have hset := rowZ_set (q := q) (w := w) (A := fun i => ni L (U + i)) (B := fun i => ni M (U + i)) (v := ni L (U + i) * ni M (U + j) % q) hi' hj (show i + j < m by omega) t2 (by
              rw [t3]; exact Eqm.mod _ _)
            rw [← t1] at hset
            have m3 := Add (ni (rowZ q w (fun i => ni L (U + i)) (fun i => ni M (U + i)) m i j) ((i + j) % m)) (ni L (U + i) * ni M (U + j) % q) hq
            generalize ((U + i : Nat) : Int) = Ui at *
            generalize ((U + j : Nat) : Int) = Uj at *
            generalize (((i + j) % m : Nat) : Int) = C' at *
            generalize (i + j) % m = C at *
            generalize (ni (rowZ q w (fun i => ni L (U + i)) (fun i => ni M (U + i)) m i j) C + ni L (U + i) * ni M (U + j) % q) % q = V3 at *
            generalize ni (rowZ q w (fun i => ni L (U + i)) (fun i => ni M (U + i)) m i j) C = V4 at *
            generalize rowZ q w (fun i => ni L (U + i)) (fun i => ni M (U + i)) m i (j + 1) = M2 at *
            generalize rowZ q w (fun i => ni L (U + i)) (fun i => ni M (U + i)) m i j = M1 at *
            generalize ni L (U + i) * ni M (U + j) % q = V1 at *
            generalize ni L (U + i) = X at *
            generalize ni M (U + j) = Y at *
            clear t1 t2 t3 m2
            generalize hJ : (j : Int) = J at *
            simp (disch := first | assumption | omega | (simp only [List.length_cons, List.length_nil, List.length_set, List.length_append, List.length_replicate, List.length_map, List.length_range, List.length_take, List.length_drop, nums_length, bools_length, vecs_length]; first | done | omega)) [hjm, hpms, v1, v2, v3, ix, iy, gx, gy, m1, m3, hij, hm00, htc, gr, hc, wj, nums_set, hset, hJ, -shiftV_shl, -shiftV_shr]
        · rw [hnx]
          simp (disch := first | assumption | omega | (simp only [List.length_cons, List.length_nil, List.length_set, List.length_append, List.length_replicate, List.length_map, List.length_range, List.length_take, List.length_drop, nums_length, bools_length, vecs_length]; first | done | omega)) [wi, -shiftV_shl, -shiftV_shr]
      · rw [hro]
        have hna := nums_append .i64 T0 Pp
        rw [htt] at hna
        have l1 : (nums .i64 T0).length = U := by rw [nums_length]; exact htp
        have l2 : (nums .i64 Pp).length = m := by rw [nums_length]; exact hpp
        rw [hpm1]
        generalize nums .i64 T0 = C0 at *
        generalize nums .i64 Pp = C1 at *
        generalize nums .i64 T1 = C2 at *
        have tk : List.take m C1 = C1 := List.take_of_length_le (by omega)
        simp (disch := first | assumption | omega | (simp only [List.length_cons, List.length_nil, List.length_set, List.length_append, List.length_replicate, List.length_map, List.length_range, List.length_take, List.length_drop, nums_length, bools_length, vecs_length]; first | done | omega)) [wp, hna, l1, l2, tk, -shiftV_shl, -shiftV_shr]
    · have hfin : Q * m = L.length := by rw [Nat.mul_comm, ← hmN]; omega
      have l1 : (nums .i64 (TT Q)).length = L.length := by rw [nums_length, htl, hfin]
      rw [hfin]
      generalize nums .i64 (TT Q) = C0 at *
      simp (disch := first | assumption | omega | (simp only [List.length_cons, List.length_nil, List.length_set, List.length_append, List.length_replicate, List.length_map, List.length_range, List.length_take, List.length_drop, nums_length, bools_length, vecs_length]; first | done | omega)) [l1, -shiftV_shl, -shiftV_shr]
end Zab.YtcebddjidpbhgaaDoorB
