/- Transforms, in the document's words: back, products. -/
import Derived.Test.YtcebddjidpbhgaaDoorBNttE
namespace Zab.YtcebddjidpbhgaaDoorB
open Go
open Go.IntWalk (i64_in)
set_option maxRecDepth 100000
set_option linter.unusedSimpArgs false
set_option linter.unusedVariables false
attribute [-simp] getElem?_pos
attribute [local simp ↓] W_loop W_seq W_skip W_ret W_exit W_reg W_cond W_block W_pre cleanO_some freezes_nil freezes_cons frzO_some andThen_normal andThen_ret andThen_exit unblock_normal unblock_ret unblock_exit Ends_normal Ends_ret steps_nil steps_cons step_some st_move st_pick st_bin st_un st_conv st_addr sv_ixA sv_ixS sv_fld sv_ixV st_ixStr st_ext sv_build sv_bsl sv_mkS st_mkfn sv_lenS sv_len st_mn st_mx st_nilChk st_tas st_slc sv_loadg sv_load st_call sv_store sv_box sv_alloc sv_mkR sv_bslR sv_nilR sv_app sv_callK stepsAt_some onSome_some onB_true onB_false onG_tt onG_tf onG_ft onG_ff onG_un optPut_some optMem_some
attribute [local simp] evalO evalL constAV get_cons get_nil put_cons put_nil look_cons look_nil putD_some clean_mk freeze_mk mapS del_cons del_nil keepS_cons keepS_nil keepL_cons keepL_nil memb_cons memb_nil unV pureV convV_i addrV toArgs anyRs hasSl2L fromRetL finR resL resV toRets one Nat.beq Nat.ble shiftV_shr shiftV_shl IntKind.bits fillV List.getElem?_cons_zero List.getElem?_cons_succ List.length_cons List.length_nil List.set_cons_zero List.set_cons_succ setR2 setR3 zrep_eqs binV_i binI_shl binI_shr binI_eqs binV_eqs binV_slcE binV_slcN lendsC_some lends_nil lends_eqs fl_lends lends_rf lendsR_some lends_rs lendsS_some seesAny_no callK1_fn callK2_some callK3_some recvPut_some afterK_some afterK_none putAll_nil putAll_cons hasSlLL_nil hasSlLL_cons recv_os recv_op recv_no recvV_some recv_tp recvT_os recvT_op srcV_rs srcR_some List.append_nil intV_quo intV_rem hasSlL mapR_eqs kill1_eqs frz1_eqs enterS_eqs enterL_eqs isRs_eqs toArg_eqs from1_eqs from_eqs toRet_eqs lentOf_eqs countR_eqs hasSl1_eqs hasSl2_eqs hasSl_eqs cellsOf_ag1 cellsOf_ag2 cellsOf_ag3 cellsOf_ag4 cellsOf_ag5 partV_2 partV_3 partV_4 partV_5 toRet_own ownR_of toArg_rs seenR_all seenR_part appS_rs appR_of srcV_sl srcV_z nilS_z bslS_some dec_t dec_f buildV_some bslV_some boxS_some root_mk ixSV_sl ixSV_rs ixAV_rf ixAV_el ixVV_ag fldV_ag lenV_sl lenV_rs lenV_z lenSV_s loadV_rf loadV_el loadR_some partV_none partV_all partV_some storeV_rf setR_one setR_all cellsOf_ag cellsOf_i cellsOf_b cellsOf_sl cellsOf_z cellsOf_er cellsOf_nl cellsOf_np cellsOf_s mkSV_of mkRS_of fl_map fl_kill fl_frz fl_enterS fl_enterL fl_lentOf fl_toArg fl_isRs fl_toRet fl_from1 fl_from fl_cells fl_countR nums_length nums_get nums_set nums_append nums_snoc nums_drop nums_take nums_zrep nums_hasSl bools_length bools_get bools_set bools_snoc bools_zrep bools_hasSl vecs_length vecs_get vecs_snoc slcV_sl idxO idx Nat.zero_add Nat.mul_one Nat.add_zero stepsAt_some onSome_some onB_true onB_false onG_tt onG_tf onG_ft onG_ff onG_un optPut_some optMem_some

/-- A power the other way round. -/
theorem turn_back {q g h : Int} {N d m : Nat} (R : NRing q N d m g) (hi : Eqm q (g * h) 1) (e : Nat) : Eqm q (g ^ ((2 * 2 ^ d - e % (2 * 2 ^ d)) % (2 * 2 ^ d))) (h ^ e) := by
  have hp := Nat.two_pow_pos d
  have hlt : e % (2 * 2 ^ d) < 2 * 2 ^ d := Nat.mod_lt _ (by omega)
  refine inv_unique (a := g ^ (e % (2 * 2 ^ d))) ?_ (((turn_mod R e).mul Eqm.rfl).trans (pow_inv hi e))
  rw [← pow_add]
  by_cases h0 : e % (2 * 2 ^ d) = 0
  · rw [h0, Nat.sub_zero, Nat.mod_self]; exact Eqm.of (by simp)
  · rw [Nat.mod_eq_of_lt (show 2 * 2 ^ d - e % (2 * 2 ^ d) < 2 * 2 ^ d by omega)]
    rw [show e % (2 * 2 ^ d) + (2 * 2 ^ d - e % (2 * 2 ^ d)) = 2 ^ d * (2 * 1) by omega]
    exact R.round 1

set_option maxHeartbeats 8000000 in
theorem fFrom (q n : Int) {x : AV} {L : List Int} (hx : IsL .i64 x L) (hL : vecBad q n L = 0) : FF tab 60 [(.ag [.i .i64 (q), .i .i64 (n)]), x] = some ⟨.os (nums .i64 (fromL q n L)) L.length 1, []⟩ := by
  obtain ⟨hq, hd, hn, hm⟩ := vecBad_zero.1 hL
  have hDp := fDepth hq hd
  have hP := fPowers hq hd
  have hnr := ntt_ring hq hd
  have hinv := rt_inv hq hd
  have hwn : ∀ k, k < 2 * 2 ^ dep q n → ni (powL q n) k = rt q n ^ k % q := fun k hk => powL_ni q n hk
  have hwl := powL_len q n
  obtain ⟨d1, d2, h3, h4, _⟩ := dep_ok hq hd
  have lo := hq.lo
  have hi := hq.hi
  have dlo := hd.lo
  have dhi := hd.hi
  have hmN : n.toNat = mlen q n * 2 ^ dep q n := h3
  have hm0 : 0 < mlen q n := h4
  have hl2 := pow_le d2
  have shD := shl_one (d := dep q n) (by omega)
  have wD := u64_small (a := dep q n) (by omega)
  have hmn : n.toNat / 2 ^ dep q n = mlen q n := rfl
  have srD := shr_by (a := n.toNat) (d := dep q n) (by omega)
  rw [hmn, Int.toNat_of_nonneg (by omega)] at srD
  have hrev : ∀ p : Nat, p < 2 ^ dep q n → revN (dep q n) p < 2 ^ dep q n ∧ FF tab 89 [.i .i64 p, .i .i64 (dep q n)] = some ⟨.i .i64 (revN (dep q n) p), []⟩ := fun p hp => ⟨revN_lt _ _, fRev (by omega) (by omega)⟩
  have hN : n.toNat = L.length := by omega
  have hI := fInv (a := ((2 ^ dep q n : Nat) : Int)) hq
  have hI' : FF tab 90 [.i .i64 ((2 ^ dep q n : Nat) : Int), .i .i64 q] = some ⟨.i .i64 (over q n), []⟩ := hI
  have hov : 0 ≤ over q n ∧ over q n < q := ⟨Int.emod_nonneg _ (by omega), Int.emod_lt_of_pos _ (by omega)⟩
  clear hI
  refine call_by (A := A60) rfl rfl ?_
  have fx := hx.flat
  let val : Nat → Int := fun p => fro (irt q n) (ni L) (mlen q n) (dep q n) 0 (p / parts (mlen q n) (dep q n) 0) (p % parts (mlen q n) (dep q n) 0 / mlen q n) (p % parts (mlen q n) (dep q n) 0 % mlen q n) % q * (over q n % q) % q
  have hto : fromL q n L = (List.range (mlen q n * 2 ^ dep q n)).map val := by
    unfold fromL froL
    rw [List.map_map]; rfl
  have hval : ∀ k j : Nat, k < 2 ^ dep q n → j < mlen q n → val (k * mlen q n + j) = sumTo (fun i => ni L (i * mlen q n + j) * ni (powL q n) ((2 * 2 ^ dep q n - k * (2 * revN (dep q n) i + 1) % (2 * 2 ^ dep q n)) % (2 * 2 ^ dep q n))) (2 ^ dep q n) % q * over q n % q := fun k j hk hj => by
    have hp0 : parts (mlen q n) (dep q n) 0 = mlen q n * 2 ^ dep q n := rfl
    have hlt : k * mlen q n + j < mlen q n * 2 ^ dep q n := by
      have : (k + 1) * mlen q n ≤ 2 ^ dep q n * mlen q n := Nat.mul_le_mul_right _ hk
      rw [Nat.add_mul, Nat.one_mul, Nat.mul_comm (2 ^ dep q n)] at this; omega
    show fro _ _ _ _ _ ((k * mlen q n + j) / parts (mlen q n) (dep q n) 0) ((k * mlen q n + j) % parts (mlen q n) (dep q n) 0 / mlen q n) ((k * mlen q n + j) % parts (mlen q n) (dep q n) 0 % mlen q n) % q * (over q n % q) % q = _
    rw [hp0, Nat.div_eq_of_lt hlt, Nat.mod_eq_of_lt hlt, Nat.mul_comm k, Nat.mul_add_div hm0, Nat.div_eq_of_lt hj, Nat.add_zero, Nat.mul_add_mod, Nat.mod_eq_of_lt hj, Int.emod_eq_of_lt hov.1 hov.2]
    congr 1
    congr 1
    unfold fro
    rw [Nat.sub_zero]
    refine Eqm.sum fun i _ => ?_
    have hlt : (2 * 2 ^ dep q n - k * (2 * revN (dep q n) i + 1) % (2 * 2 ^ dep q n)) % (2 * 2 ^ dep q n) < 2 * 2 ^ dep q n := Nat.mod_lt _ (by have := Nat.two_pow_pos (dep q n); omega)
    rw [hwn _ hlt, Nat.zero_mul, Nat.zero_add]
    exact Eqm.rfl.mul ((Eqm.mod _ _).trans (turn_back hnr hinv _)).symm
  rw [hto]
  clear hto
  have hb : ∀ k e j : Nat, k * mlen q n + j < L.length → e < 2 * 2 ^ dep q n → -70231389093889 ≤ ni L (k * mlen q n + j) * ni (powL q n) e ∧ ni L (k * mlen q n + j) * ni (powL q n) e ≤ 70231389093889 := fun k e j h1 h2 => by
    have a := mods_at hm h1
    have b : 0 ≤ ni (powL q n) e ∧ ni (powL q n) e < q := by rw [hwn e h2]; exact ⟨Int.emod_nonneg _ (by omega), Int.emod_lt_of_pos _ (by omega)⟩
    exact pr_bound hq a.1 a.2 b.1 b.2
  clear hwn hnr hinv
  rw [hN] at hmN
  rw [← hmN]
  generalize val = V at *
  generalize powL q n = P at *
  generalize over q n = ov at *
  generalize mlen q n = m at *
  generalize dep q n = D at *
  generalize hQ : 2 ^ D = Q at *
  have hQ0 : 0 < Q := by rw [← hQ]; exact Nat.two_pow_pos D
  have hPl := nums_length .i64 P
  simp (disch := first | assumption | omega | (simp only [List.length_cons, List.length_nil, List.length_set, List.length_append, List.length_replicate, List.length_map, List.length_range, List.length_take, List.length_drop, nums_length, bools_length, vecs_length]; first | done | omega)) [A60, hDp, hP, srD, wD, shD, hI', hN, -shiftV_shl, -shiftV_shr]
  have hz := fillTo_zero V L.length
  refine w_heads Q (fun k => ⟨[(10, .i .i64 k), (9, .rs 32 0 L.length 1), (8, .i .i64 ov), (7, .sl (nums .i64 P) (2 * Q)), (6, .i .i64 m), (5, .i .i64 D), (2, .rf 2 0), (1, x)], [(32, nums .i64 (fillTo V L.length (k * m))), (2, [.i .i64 q, .i .i64 n])]⟩) (by rw [Nat.zero_mul, hz]; simp (disch := first | assumption | omega | (simp only [List.length_cons, List.length_nil, List.length_set, List.length_append, List.length_replicate, List.length_map, List.length_range, List.length_take, List.length_drop, nums_length, bools_length, vecs_length]; first | done | omega)) []) ?_ ?_
  · intro k hk
    have wk : IntKind.i64.wrap ((k : Int) + 1) = (k : Int) + 1 := i64_in _ (by omega)
    have hkQ : (k : Int) < (Q : Int) := by omega
    have him : (k + 1) * m = k * m + m := by rw [Nat.add_mul, Nat.one_mul]
    have hiL : k * m + m ≤ L.length := by
      rw [← him, hmN, Nat.mul_comm m]; exact Nat.mul_le_mul_right _ hk
    have hvk := fun j hj => hval k j hk hj
    clear hval
    rw [him]
    have hkm : IntKind.i64.wrap ((k : Int) * (m : Int)) = ((k * m : Nat) : Int) := by rw [← Int.natCast_mul]; exact i64_in _ (by omega)
    generalize k * m = U at *
    simp (disch := first | assumption | omega | (simp only [List.length_cons, List.length_nil, List.length_set, List.length_append, List.length_replicate, List.length_map, List.length_range, List.length_take, List.length_drop, nums_length, bools_length, vecs_length]; first | done | omega)) [wD, shD, hkQ, -shiftV_shl, -shiftV_shr]
    refine w_heads m (fun j => ⟨[(11, .i .i64 j), (10, .i .i64 k), (9, .rs 32 0 L.length 1), (8, .i .i64 ov), (7, .sl (nums .i64 P) (2 * Q)), (6, .i .i64 m), (5, .i .i64 D), (2, .rf 2 0), (1, x)], [(32, nums .i64 (fillTo V L.length (U + j))), (2, [.i .i64 q, .i .i64 n])]⟩) (by simp (disch := first | assumption | omega | (simp only [List.length_cons, List.length_nil, List.length_set, List.length_append, List.length_replicate, List.length_map, List.length_range, List.length_take, List.length_drop, nums_length, bools_length, vecs_length]; first | done | omega)) []) ?_ ?_
    · intro j hj
      have wj : IntKind.i64.wrap ((j : Int) + 1) = (j : Int) + 1 := i64_in _ (by omega)
      have hjm : (j : Int) < (m : Int) := by omega
      have hv := hvk j hj
      have hmod : ∀ i, (2 * Q - k * (2 * revN D i + 1) % (2 * Q)) % (2 * Q) < 2 * Q := fun i => Nat.mod_lt _ (by omega)
      have hkL : ∀ i, i < Q → i * m + j < L.length := fun i hi => by
        have : (i + 1) * m ≤ Q * m := Nat.mul_le_mul_right _ hi
        rw [Nat.add_mul, Nat.one_mul, Nat.mul_comm Q, ← hmN] at this; omega
      let f : Nat → Int := fun i => ni L (i * m + j) * ni P ((2 * Q - k * (2 * revN D i + 1) % (2 * Q)) % (2 * Q))
      have hbk : ∀ i, i < Q → -70231389093889 ≤ f i ∧ f i ≤ 70231389093889 := fun i hi => hb i _ j (hkL i hi) (hmod i)
      have hsb : ∀ i, i ≤ Q → -(256 * 70231389093889) ≤ sumTo f i ∧ sumTo f i ≤ 256 * 70231389093889 := fun i hi => by
        have h1 := sumTo_bound (f := fun i => if i < Q then f i else 0) (B := 70231389093889) (by omega) (fun i => by
          split
          · exact hbk i (by assumption)
          · omega) i
        rw [sumTo_congr (g := f) fun i hi => if_pos (by omega)] at h1
        have : (i : Int) * 70231389093889 ≤ 256 * 70231389093889 := by omega
        omega
      have hM := fMod (sumTo f Q) hq
      have mo : 0 ≤ sumTo f Q % q ∧ sumTo f Q % q < q := ⟨Int.emod_nonneg _ (by omega), Int.emod_lt_of_pos _ (by omega)⟩
      have hMu := fMul hq mo.1 mo.2 hov.1 hov.2
      have hv' : V (U + j) = sumTo f Q % q * ov % q := hv
      rw [← hv'] at hMu
      have hset := fillTo_set V (show U + j < L.length by omega)
      have hfl := fillTo_len V L.length (U + j)
      have u1 : IntKind.i64.wrap ((U : Int) + (j : Int)) = ((U + j : Nat) : Int) := i64_in _ (by omega)
      have u2 : ((U + j : Nat) : Int).toNat = U + j := Int.toNat_natCast _
      have u3 : 0 ≤ ((U + j : Nat) : Int) ∧ ((U + j : Nat) : Int) < (L.length : Int) := by omega
      have ef : ∀ i, f i = ni L (i * m + j) * ni P ((2 * Q - k * (2 * revN D i + 1) % (2 * Q)) % (2 * Q)) := fun i => rfl
      clear hvk hv hv' mo
      generalize f = f at *
      simp (disch := first | assumption | omega | (simp only [List.length_cons, List.length_nil, List.length_set, List.length_append, List.length_replicate, List.length_map, List.length_range, List.length_take, List.length_drop, nums_length, bools_length, vecs_length]; first | done | omega)) [hjm, -shiftV_shl, -shiftV_shr]
      refine w_heads Q (fun i => ⟨[(13, .i .i64 i), (12, .i .i64 (sumTo f i)), (11, .i .i64 j), (10, .i .i64 k), (9, .rs 32 0 L.length 1), (8, .i .i64 ov), (7, .sl (nums .i64 P) (2 * Q)), (6, .i .i64 m), (5, .i .i64 D), (2, .rf 2 0), (1, x)], [(32, nums .i64 (fillTo V L.length (U + j))), (2, [.i .i64 q, .i .i64 n])]⟩) (by simp (disch := first | assumption | omega | (simp only [List.length_cons, List.length_nil, List.length_set, List.length_append, List.length_replicate, List.length_map, List.length_range, List.length_take, List.length_drop, nums_length, bools_length, vecs_length]; first | done | omega)) [sumTo]) ?_ ?_
      · intro i hi'
        obtain ⟨r0, r1⟩ := hrev i hi'
        have wi : IntKind.i64.wrap ((i : Int) + 1) = (i : Int) + 1 := i64_in _ (by omega)
        have hiQ : (i : Int) < (Q : Int) := by omega
        have w1 : IntKind.i64.wrap (2 * (revN D i : Int)) = 2 * (revN D i : Int) := i64_in _ (by omega)
        have w2 : IntKind.i64.wrap (2 * (revN D i : Int) + 1) = ((2 * revN D i + 1 : Nat) : Int) := i64_in _ (by omega)
        have h1 := hkL i hi'
        have h2 := hmod i
        have h3 := hbk i hi'
        have h4 := hsb i (by omega)
        have h5 := hsb (i + 1) (by omega)
        have e3 := ef i
        have hkE : k * (2 * revN D i + 1) ≤ 255 * 1000 := Nat.mul_le_mul (by omega) (by omega)
        have v1 : IntKind.i64.wrap ((i : Int) * (m : Int)) = ((i * m : Nat) : Int) := by rw [← Int.natCast_mul]; exact i64_in _ (by omega)
        have v2 : IntKind.i64.wrap (((i * m : Nat) : Int) + (j : Int)) = ((i * m + j : Nat) : Int) := i64_in _ (by omega)
        have v3 : IntKind.i64.wrap ((k : Int) * ((2 * revN D i + 1 : Nat) : Int)) = ((k * (2 * revN D i + 1) : Nat) : Int) := by rw [← Int.natCast_mul]; exact i64_in _ (by omega)
        have v4 : ((k * (2 * revN D i + 1) : Nat) : Int).tmod ((2 * Q : Nat) : Int) = ((k * (2 * revN D i + 1) % (2 * Q) : Nat) : Int) := by rw [Int.tmod_eq_emod_of_nonneg (by omega)]; rfl
        have hlt : k * (2 * revN D i + 1) % (2 * Q) < 2 * Q := Nat.mod_lt _ (by omega)
        have v7 : IntKind.i64.wrap (((2 * Q : Nat) : Int) - ((k * (2 * revN D i + 1) % (2 * Q) : Nat) : Int)) = ((2 * Q - k * (2 * revN D i + 1) % (2 * Q) : Nat) : Int) := by rw [i64_in _ (by omega)]; omega
        have v8 : ((2 * Q - k * (2 * revN D i + 1) % (2 * Q) : Nat) : Int).tmod ((2 * Q : Nat) : Int) = (((2 * Q - k * (2 * revN D i + 1) % (2 * Q)) % (2 * Q) : Nat) : Int) := by rw [Int.tmod_eq_emod_of_nonneg (by omega)]; rfl
        have ix := ixSV_isL hx (k' := .i64) (j := ((i * m + j : Nat) : Int)) (by omega) (by omega)
        rw [Int.toNat_natCast] at ix
        have gx := nums_get (k := .i64) (L := L) (j := i * m + j) (by omega)
        have gp := nums_get (k := .i64) (L := P) (j := (2 * Q - k * (2 * revN D i + 1) % (2 * Q)) % (2 * Q)) (by omega)
        have tp : (((2 * Q - k * (2 * revN D i + 1) % (2 * Q)) % (2 * Q) : Nat) : Int).toNat = (2 * Q - k * (2 * revN D i + 1) % (2 * Q)) % (2 * Q) := Int.toNat_natCast _
        have bp : 0 ≤ (((2 * Q - k * (2 * revN D i + 1) % (2 * Q)) % (2 * Q) : Nat) : Int) ∧ (((2 * Q - k * (2 * revN D i + 1) % (2 * Q)) % (2 * Q) : Nat) : Int) < ((2 * Q : Nat) : Int) := by omega
        have v5 : IntKind.i64.wrap (ni L (i * m + j) * ni P ((2 * Q - k * (2 * revN D i + 1) % (2 * Q)) % (2 * Q))) = f i := by rw [← e3]; exact i64_in _ (by omega)
        have es : sumTo f (i + 1) = sumTo f i + f i := rfl
        have v6 : IntKind.i64.wrap (sumTo f i + f i) = sumTo f (i + 1) := by rw [← es]; exact i64_in _ (by omega)
        have h2Q : ((2 * Q : Nat) : Int) ≠ 0 := by omega
        clear es hsb hbk hkL hmod hM hset hb h3 h4 h5 ef e3 hMu
        generalize sumTo f (i + 1) = S1 at *
        generalize sumTo f i = S0 at *
        generalize f i = Fi at *
        generalize (((2 * Q - k * (2 * revN D i + 1) % (2 * Q)) % (2 * Q) : Nat) : Int) = Wi at *
        generalize (2 * Q - k * (2 * revN D i + 1) % (2 * Q)) % (2 * Q) = Wn at *
        generalize ((2 * Q - k * (2 * revN D i + 1) % (2 * Q) : Nat) : Int) = Wj at *
        generalize ((k * (2 * revN D i + 1) % (2 * Q) : Nat) : Int) = Wk at *
        generalize ((k * (2 * revN D i + 1) : Nat) : Int) = KE at *
        generalize ((2 * revN D i + 1 : Nat) : Int) = E at *
        generalize revN D i = R at *
        generalize ((i * m + j : Nat) : Int) = Xi at *
        generalize i * m + j = Xn at *
        generalize ni L Xn = X at *
        generalize ni P Wn = Y at *
        generalize ((i * m : Nat) : Int) = KM at *
        generalize hTQ : ((2 * Q : Nat) : Int) = TQ at *
        generalize hT : (i : Int) = T at *
        generalize fillTo V L.length (U + j) = F at *
        have hTQ2 : 2 * (Q : Int) = TQ := by rw [← hTQ]; omega
        simp (disch := first | assumption | omega | (simp only [List.length_cons, List.length_nil, List.length_set, List.length_append, List.length_replicate, List.length_map, List.length_range, List.length_take, List.length_drop, nums_length, bools_length, vecs_length]; first | done | omega)) [shD, wD, hiQ, r1, w1, w2, v1, v2, v3, v4, v5, v6, v7, v8, ix, gx, gp, tp, h2Q, wi, hT, hTQ, hTQ2, -shiftV_shl, -shiftV_shr]
      · have ea : U + (j + 1) = U + j + 1 := by omega
        rw [ea]
        generalize sumTo f Q % q = SM at *
        generalize sumTo f Q = S0 at *
        generalize fillTo V L.length (U + j + 1) = F' at *
        generalize fillTo V L.length (U + j) = F at *
        generalize V (U + j) = Vj at *
        generalize ((U + j : Nat) : Int) = UJ at *
        generalize U + j = Uj at *
        clear hsb hbk hkL hmod hb ef
        simp (disch := first | assumption | omega | (simp only [List.length_cons, List.length_nil, List.length_set, List.length_append, List.length_replicate, List.length_map, List.length_range, List.length_take, List.length_drop, nums_length, bools_length, vecs_length]; first | done | omega)) [shD, wD, hM, hMu, hkm, u1, u2, wj, nums_set, hset, ea, -shiftV_shl, -shiftV_shr]
    · simp (disch := first | assumption | omega | (simp only [List.length_cons, List.length_nil, List.length_set, List.length_append, List.length_replicate, List.length_map, List.length_range, List.length_take, List.length_drop, nums_length, bools_length, vecs_length]; first | done | omega)) [wk, -shiftV_shl, -shiftV_shr]
  · have hQm : Q * m = L.length := by rw [hmN, Nat.mul_comm]
    rw [hQm, fillTo_all]
    have hml : (nums .i64 ((List.range L.length).map V)).length = L.length := by simp [nums]
    generalize (nums .i64 ((List.range L.length).map V)) = F at *
    simp (disch := first | assumption | omega | (simp only [List.length_cons, List.length_nil, List.length_set, List.length_append, List.length_replicate, List.length_map, List.length_range, List.length_take, List.length_drop, nums_length, bools_length, vecs_length]; first | done | omega)) [shD, wD, -shiftV_shl, -shiftV_shr]

end Zab.YtcebddjidpbhgaaDoorB
