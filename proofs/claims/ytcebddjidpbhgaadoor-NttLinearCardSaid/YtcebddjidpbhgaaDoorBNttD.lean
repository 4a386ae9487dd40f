/- Transforms, in the document's words. -/
import Derived.Test.YtcebddjidpbhgaaDoorBRef1
import Derived.Test.YtcebddjidpbhgaaDoorBNttM
namespace Zab.YtcebddjidpbhgaaDoorB
open Go
open Go.IntWalk (i64_in)
set_option maxRecDepth 100000
set_option linter.unusedSimpArgs false
set_option linter.unusedVariables false
attribute [-simp] getElem?_pos
attribute [local simp ↓] W_loop W_seq W_skip W_ret W_exit W_reg W_cond W_block W_pre cleanO_some freezes_nil freezes_cons frzO_some andThen_normal andThen_ret andThen_exit unblock_normal unblock_ret unblock_exit Ends_normal Ends_ret steps_nil steps_cons step_some st_move st_pick st_bin st_un st_conv st_addr sv_ixA sv_ixS sv_fld sv_ixV st_ixStr st_ext sv_build sv_bsl sv_mkS st_mkfn sv_lenS sv_len st_mn st_mx st_nilChk st_tas st_slc sv_loadg sv_load st_call sv_store sv_box sv_alloc sv_mkR sv_bslR sv_nilR sv_app sv_callK stepsAt_some onSome_some onB_true onB_false onG_tt onG_tf onG_ft onG_ff onG_un optPut_some optMem_some
attribute [local simp] evalO evalL constAV get_cons get_nil put_cons put_nil look_cons look_nil putD_some clean_mk freeze_mk mapS del_cons del_nil keepS_cons keepS_nil keepL_cons keepL_nil memb_cons memb_nil unV pureV convV_i addrV toArgs anyRs hasSl2L fromRetL finR resL resV toRets one Nat.beq Nat.ble shiftV_shr shiftV_shl IntKind.bits fillV List.getElem?_cons_zero List.getElem?_cons_succ List.length_cons List.length_nil List.set_cons_zero List.set_cons_succ setR2 setR3 zrep_eqs binV_i binI_shl binI_shr binI_eqs binV_eqs binV_slcE binV_slcN lendsC_some lends_nil lends_eqs fl_lends lends_rf lendsR_some lends_rs lendsS_some seesAny_no callK1_fn callK2_some callK3_some recvPut_some afterK_some afterK_none putAll_nil putAll_cons hasSlLL_nil hasSlLL_cons recv_os recv_op recv_no recvV_some recv_tp recvT_os recvT_op srcV_rs srcR_some List.append_nil intV_quo intV_rem hasSlL mapR_eqs kill1_eqs frz1_eqs enterS_eqs enterL_eqs isRs_eqs toArg_eqs from1_eqs from_eqs toRet_eqs lentOf_eqs countR_eqs hasSl1_eqs hasSl2_eqs hasSl_eqs cellsOf_ag1 cellsOf_ag2 cellsOf_ag3 cellsOf_ag4 cellsOf_ag5 partV_2 partV_3 partV_4 partV_5 toRet_own ownR_of toArg_rs seenR_all seenR_part appS_rs appR_of srcV_sl srcV_z nilS_z bslS_some dec_t dec_f buildV_some bslV_some boxS_some root_mk ixSV_sl ixSV_rs ixAV_rf ixAV_el ixVV_ag fldV_ag lenV_sl lenV_rs lenV_z lenSV_s loadV_rf loadV_el loadR_some partV_none partV_all partV_some storeV_rf setR_one setR_all cellsOf_ag cellsOf_i cellsOf_b cellsOf_sl cellsOf_z cellsOf_er cellsOf_nl cellsOf_np cellsOf_s mkSV_of mkRS_of fl_map fl_kill fl_frz fl_enterS fl_enterL fl_lentOf fl_toArg fl_isRs fl_toRet fl_from1 fl_from fl_cells fl_countR nums_length nums_get nums_set nums_append nums_snoc nums_drop nums_take nums_zrep nums_hasSl bools_length bools_get bools_set bools_snoc bools_zrep bools_hasSl vecs_length vecs_get vecs_snoc slcV_sl idxO idx Nat.zero_add Nat.mul_one Nat.add_zero stepsAt_some onSome_some onB_true onB_false onG_tt onG_tf onG_ft onG_ff onG_un optPut_some optMem_some

theorem fPow (a : Int) {e p : Int} (h : Right p) (he : 0 ≤ e) (he2 : e ≤ 9223372036854775807) : FF tab 37 [.i .i64 a, .i .i64 e, .i .i64 p] = some ⟨.i .i64 (a ^ e.toNat % p), []⟩ := by
  refine call_by (A := A37) rfl rfl ?_
  have lo := h.lo
  have hn : ¬ e < 0 := by omega
  have h1 : (1 : Int).tmod p = 1 := by rw [Int.tmod_eq_emod_of_nonneg (by omega)]; exact Int.emod_eq_of_lt (by omega) (by omega)
  have hp0 : p ≠ 0 := by omega
  simp (disch := first | assumption | omega | (simp only [List.length_cons, List.length_nil, List.length_set, List.length_append, List.length_replicate, List.length_map, List.length_range, List.length_take, List.length_drop, nums_length, bools_length, vecs_length]; first | done | omega)) [A37, hn, h1, hp0, fMod _ h]
  refine w_rounds (I := fun m S => ∃ x out f : Int, S.clean [8, 7, 2, 1] [] = ⟨[(8, .i .i64 x), (7, .i .i64 out), (2, .i .i64 p), (1, .i .i64 f)], []⟩ ∧ 0 ≤ f ∧ f ≤ 9223372036854775807 ∧ m = f.toNat ∧
    0 ≤ out ∧ out < p ∧ 0 ≤ x ∧ x < p ∧ (out * x ^ f.toNat) % p = a ^ e.toNat % p) (m := e.toNat) ?_ ?_
  · rintro m S ⟨x, out, f, hS, f0, f1, rfl, o0, o1, x0, x1, hx⟩
    rw [hS]
    have q1 : f.tmod 2 = f % 2 := Int.tmod_eq_emod_of_nonneg f0
    have q2 : f.tdiv 2 = f / 2 := Int.tdiv_eq_ediv_of_nonneg f0
    have q3 : IntKind.i64.wrap (f / 2) = f / 2 := i64_in _ (by omega)
    have q4 : (f / 2).toNat = f.toNat / 2 := by omega
    have m1 := fMul h o0 o1 x0 x1
    have m2 := fMul h x0 x1 x0 x1
    by_cases hf : 0 < f
    · by_cases hb : f % 2 = 1
      · simp (disch := first | assumption | omega | (simp only [List.length_cons, List.length_nil, List.length_set, List.length_append, List.length_replicate, List.length_map, List.length_range, List.length_take, List.length_drop, nums_length, bools_length, vecs_length]; first | done | omega)) [hf, hb, q1, q2, q3, m1, m2]
        refine ⟨(f / 2).toNat, by omega, _, _, _, ⟨rfl, rfl, rfl⟩, by omega, by omega, rfl, Int.emod_nonneg _ (by omega), Int.emod_lt_of_pos _ (by omega), Int.emod_nonneg _ (by omega), Int.emod_lt_of_pos _ (by omega), ?_⟩
        rw [q4, odd_round _ _ _ _ (by omega), hx]
      · simp (disch := first | assumption | omega | (simp only [List.length_cons, List.length_nil, List.length_set, List.length_append, List.length_replicate, List.length_map, List.length_range, List.length_take, List.length_drop, nums_length, bools_length, vecs_length]; first | done | omega)) [hf, hb, q1, q2, q3, m1, m2]
        refine ⟨(f / 2).toNat, by omega, _, _, _, ⟨rfl, rfl, rfl⟩, by omega, by omega, rfl, o0, o1, Int.emod_nonneg _ (by omega), Int.emod_lt_of_pos _ (by omega), ?_⟩
        rw [q4, even_round _ _ _ _ (by omega), hx]
    · simp (disch := first | assumption | omega | (simp only [List.length_cons, List.length_nil, List.length_set, List.length_append, List.length_replicate, List.length_map, List.length_range, List.length_take, List.length_drop, nums_length, bools_length, vecs_length]; first | done | omega)) [hf]
      have : f = 0 := by omega
      subst this
      rw [← hx]
      simp only [Int.toNat_zero, Int.pow_zero, Int.mul_one]
      exact (Int.emod_eq_of_lt o0 o1).symm
  · refine ⟨a % p, 1, e, ?_, he, he2, rfl, by omega, by omega, Int.emod_nonneg _ (by omega), Int.emod_lt_of_pos _ (by omega), ?_⟩
    · simp []
    · rw [Int.one_mul, pow_mod]
theorem fInv {a q : Int} (hq : Right q) : FF tab 90 [.i .i64 a, .i .i64 q] = some ⟨.i .i64 (a ^ (q - 2).toNat % q), []⟩ := by
  refine call_by (A := A90) rfl rfl ?_
  have lo := hq.lo
  have hi := hq.hi
  have w : IntKind.i64.wrap (q - 2) = q - 2 := i64_in _ (by omega)
  have hP := fPow a hq (e := q - 2) (by omega) (by omega)
  generalize a ^ (q - 2).toNat % q = V at *
  simp (disch := first | assumption | omega | (simp only [List.length_cons, List.length_nil, List.length_set, List.length_append, List.length_replicate, List.length_map, List.length_range, List.length_take, List.length_drop, nums_length, bools_length, vecs_length]; first | done | omega)) [A90, w, hP]
theorem fDepth {q n : Int} (hq : Right q) (hd : Deg n) : FF tab 87 [(.ag [.i .i64 (q), .i .i64 (n)])] = some ⟨.i .i64 (dep q n), []⟩ := by
  rcases hq with rfl | rfl | rfl | rfl | rfl | rfl | rfl <;> rcases hd with rfl | rfl | rfl | rfl | rfl | rfl | rfl <;> exact FF_of (n := 60) (by kernel_rfl)
set_option maxHeartbeats 2000000 in
theorem fRoot {q n : Int} (hq : Right q) (hd : Deg n) : FF tab 91 [(.ag [.i .i64 (q), .i .i64 (n)])] = some ⟨.i .i64 (rt q n), []⟩ := by
  refine call_by (A := A91) rfl rfl ?_
  have hD := fDepth hq hd
  have lo := hq.lo
  have hi := hq.hi
  obtain ⟨d1, d2, _, _, h5, h6, h7, _, _⟩ := dep_ok hq hd
  by_cases c1 : q = 3329 ∧ n = 256
  · obtain ⟨rfl, rfl⟩ := c1
    rw [show rt 3329 256 = 17 from if_pos ⟨rfl, rfl⟩]
    simp (disch := first | assumption | omega | (simp only [List.length_cons, List.length_nil, List.length_set, List.length_append, List.length_replicate, List.length_map, List.length_range, List.length_take, List.length_drop, nums_length, bools_length, vecs_length]; first | done | omega)) [A91]
  · by_cases c2 : q = 8380417 ∧ n = 256
    · obtain ⟨rfl, rfl⟩ := c2
      rw [show rt 8380417 256 = 1753 from by unfold rt; rw [if_neg (by omega), if_pos ⟨rfl, rfl⟩]]
      simp (disch := first | assumption | omega | (simp only [List.length_cons, List.length_nil, List.length_set, List.length_append, List.length_replicate, List.length_map, List.length_range, List.length_take, List.length_drop, nums_length, bools_length, vecs_length]; first | done | omega)) [A91]
    · have hr : rt q n = 2 + leastRt q (dep q n) := by unfold rt; rw [if_neg c1, if_neg c2]
      rw [hr]
      obtain ⟨l1, l2, l3⟩ := leastRt_ok h5 h6
      generalize wit q (dep q n) = w at *
      generalize dep q n = D at *
      have sh := shl_one (d := D) (by omega)
      have wD := u64_small (a := D) (by omega)
      have wq : IntKind.i64.wrap (q - 1) = q - 1 := i64_in _ (by omega)
      have hp : (2 ^ D : Nat) ≤ 2 ^ 8 := pow_le d2
      have hno : ∀ i : Nat, i < leastRt q D → ¬ (2 + (i : Int)) ^ 2 ^ D % q = q - 1 := fun i h => l2 i h
      have hyes : (2 + (leastRt q D : Int)) ^ 2 ^ D % q = q - 1 := l1
      clear l1 l2 hr h5 h6
      generalize leastRt q D = R at *
      generalize 2 ^ D = Q at *
      have hst : ∀ i : Nat, FF tab 37 [.i .i64 (2 + i), .i .i64 (Q : Int), .i .i64 q] = some ⟨.i .i64 ((2 + (i : Int)) ^ Q % q), []⟩ := fun i => by
        have := fPow (2 + (i : Int)) hq (e := (Q : Int)) (by omega) (by omega)
        rwa [Int.toNat_natCast] at this
      by_cases n0 : n = 256
      · have q1 : ¬ q = 3329 := fun h => c1 ⟨h, n0⟩
        have q2 : ¬ q = 8380417 := fun h => c2 ⟨h, n0⟩
        subst n0
        simp (disch := first | assumption | omega | (simp only [List.length_cons, List.length_nil, List.length_set, List.length_append, List.length_replicate, List.length_map, List.length_range, List.length_take, List.length_drop, nums_length, bools_length, vecs_length]; first | done | omega)) [A91, hD, q1, q2, -shiftV_shl, -shiftV_shr]
        refine w_heads R (fun i => ⟨[(4, .i .i64 (2 + i)), (3, .i .i64 D), (1, .rf 1 0)], [(1, [.i .i64 q, .i .i64 256])]⟩) (by simp (disch := first | assumption | omega | (simp only [List.length_cons, List.length_nil, List.length_set, List.length_append, List.length_replicate, List.length_map, List.length_range, List.length_take, List.length_drop, nums_length, bools_length, vecs_length]; first | done | omega)) []) ?_ ?_
        · intro i hi'
          have h1 := hst i
          have h2 := hno i hi'
          have w1 : IntKind.i64.wrap (2 + (i : Int) + 1) = 2 + ((i : Int) + 1) := by rw [i64_in _ (by omega)]; omega
          generalize (2 + (i : Int)) ^ Q % q = V at *
          generalize hT : (i : Int) = I at *
          simp (disch := first | assumption | omega | (simp only [List.length_cons, List.length_nil, List.length_set, List.length_append, List.length_replicate, List.length_map, List.length_range, List.length_take, List.length_drop, nums_length, bools_length, vecs_length]; first | done | omega)) [sh, wD, h1, h2, wq, w1, hT, -shiftV_shl, -shiftV_shr]
        · have h1 := hst R
          rw [hyes] at h1
          generalize (R : Int) = I at *
          simp (disch := first | assumption | omega | (simp only [List.length_cons, List.length_nil, List.length_set, List.length_append, List.length_replicate, List.length_map, List.length_range, List.length_take, List.length_drop, nums_length, bools_length, vecs_length]; first | done | omega)) [sh, wD, h1, wq, -shiftV_shl, -shiftV_shr]
      · simp (disch := first | assumption | omega | (simp only [List.length_cons, List.length_nil, List.length_set, List.length_append, List.length_replicate, List.length_map, List.length_range, List.length_take, List.length_drop, nums_length, bools_length, vecs_length]; first | done | omega)) [A91, hD, n0, -shiftV_shl, -shiftV_shr]
        refine w_heads R (fun i => ⟨[(4, .i .i64 (2 + i)), (3, .i .i64 D), (1, .rf 1 0)], [(1, [.i .i64 q, .i .i64 n])]⟩) (by simp (disch := first | assumption | omega | (simp only [List.length_cons, List.length_nil, List.length_set, List.length_append, List.length_replicate, List.length_map, List.length_range, List.length_take, List.length_drop, nums_length, bools_length, vecs_length]; first | done | omega)) []) ?_ ?_
        · intro i hi'
          have h1 := hst i
          have h2 := hno i hi'
          have w1 : IntKind.i64.wrap (2 + (i : Int) + 1) = 2 + ((i : Int) + 1) := by rw [i64_in _ (by omega)]; omega
          generalize (2 + (i : Int)) ^ Q % q = V at *
          generalize hT : (i : Int) = I at *
          simp (disch := first | assumption | omega | (simp only [List.length_cons, List.length_nil, List.length_set, List.length_append, List.length_replicate, List.length_map, List.length_range, List.length_take, List.length_drop, nums_length, bools_length, vecs_length]; first | done | omega)) [sh, wD, h1, h2, wq, w1, hT, -shiftV_shl, -shiftV_shr]
        · have h1 := hst R
          rw [hyes] at h1
          generalize (R : Int) = I at *
          simp (disch := first | assumption | omega | (simp only [List.length_cons, List.length_nil, List.length_set, List.length_append, List.length_replicate, List.length_map, List.length_range, List.length_take, List.length_drop, nums_length, bools_length, vecs_length]; first | done | omega)) [sh, wD, h1, wq, -shiftV_shl, -shiftV_shr]
theorem fRev {i b : Nat} (hb : b ≤ 20) (hi : i < 2 ^ 40) : FF tab 89 [.i .i64 i, .i .i64 b] = some ⟨.i .i64 (revN b i), []⟩ := by
  refine call_by (A := A89) rfl rfl ?_
  have c1 : ¬ (b : Int) < 0 := by omega
  have c2 : ¬ (20 : Int) < (b : Int) := by omega
  simp (disch := first | assumption | omega | (simp only [List.length_cons, List.length_nil, List.length_set, List.length_append, List.length_replicate, List.length_map, List.length_range, List.length_take, List.length_drop, nums_length, bools_length, vecs_length]; first | done | omega)) [A89, c1, c2, -shiftV_shl, -shiftV_shr]
  refine w_heads b (fun k => ⟨[(6, .i .i64 k), (5, .i .i64 (revN k i)), (1, .i .i64 b), (0, .i .i64 i)], []⟩) (by simp (disch := first | assumption | omega | (simp only [List.length_cons, List.length_nil, List.length_set, List.length_append, List.length_replicate, List.length_map, List.length_range, List.length_take, List.length_drop, nums_length, bools_length, vecs_length]; first | done | omega)) [revN]) ?_ ?_
  · intro k hk
    have w1 : IntKind.i64.wrap ((k : Int) + 1) = (k : Int) + 1 := i64_in _ (by omega)
    have wk := u64_small (a := k) (by omega)
    have hlt := revN_lt i k
    have hp : 2 ^ k ≤ 2 ^ 20 := pow_le (by omega)
    have hdv : i / 2 ^ k ≤ i := Nat.div_le_self _ _
    have a1 := and_one (a := i / 2 ^ k) (by omega)
    have s2 := shr_by (a := i) (d := k) (by omega)
    have e1 : IntKind.i64.wrap (2 * (revN k i : Int)) = 2 * (revN k i : Int) := i64_in _ (by omega)
    have e2 : IntKind.i64.wrap (2 * (revN k i : Int) + ((i / 2 ^ k % 2 : Nat) : Int)) = (revN (k + 1) i : Int) := by rw [i64_in _ (by omega)]; simp only [revN]; omega
    have hkb : (k : Int) < (b : Int) := by omega
    generalize revN (k + 1) i = R' at *
    generalize i / 2 ^ k % 2 = M at *
    generalize i / 2 ^ k = I at *
    generalize revN k i = R at *
    generalize hT : (k : Int) = K at *
    simp (disch := first | assumption | omega | (simp only [List.length_cons, List.length_nil, List.length_set, List.length_append, List.length_replicate, List.length_map, List.length_range, List.length_take, List.length_drop, nums_length, bools_length, vecs_length]; first | done | omega)) [wk, a1, s2, e1, e2, w1, hkb, hT, -shiftV_shl, -shiftV_shr]
  · simp (disch := first | assumption | omega | (simp only [List.length_cons, List.length_nil, List.length_set, List.length_append, List.length_replicate, List.length_map, List.length_range, List.length_take, List.length_drop, nums_length, bools_length, vecs_length]; first | done | omega)) []

/-- A root's powers, all the way round. -/
noncomputable def powL (q n : Int) : List Int := (List.range (2 * 2 ^ dep q n)).map fun i => rt q n ^ i % q
theorem powL_len (q n : Int) : (powL q n).length = 2 * 2 ^ dep q n := by simp [powL]
theorem powL_ni (q n : Int) {i : Nat} (h : i < 2 * 2 ^ dep q n) : ni (powL q n) i = rt q n ^ i % q := ni_map h
theorem fPowers {q n : Int} (hq : Right q) (hd : Deg n) : FF tab 88 [(.ag [.i .i64 (q), .i .i64 (n)])] = some ⟨.os (nums .i64 (powL q n)) (2 * 2 ^ dep q n) 1, []⟩ := by
  refine call_by (A := A88) rfl rfl ?_
  have hR := fRoot hq hd
  have hD := fDepth hq hd
  have lo := hq.lo
  obtain ⟨d1, d2, _⟩ := dep_ok hq hd
  obtain ⟨_, g0, g1⟩ := rt_isRt hq hd
  unfold powL
  generalize rt q n = g at *
  generalize dep q n = D at *
  have hp : 2 ^ D ≤ 2 ^ 8 := pow_le d2
  have wD := u64_small (a := D) (by omega)
  have sh := shl_by (a := 2) (d := D) (by omega) (by omega)
  generalize hQ : 2 * 2 ^ D = Q at *
  simp (disch := first | assumption | omega | (simp only [List.length_cons, List.length_nil, List.length_set, List.length_append, List.length_replicate, List.length_map, List.length_range, List.length_take, List.length_drop, nums_length, bools_length, vecs_length]; first | done | omega)) [A88, hR, -shiftV_shl, -shiftV_shr]
  refine w_heads Q (fun k => ⟨[(6, .i .i64 k), (5, .rs 5 0 k 1), (4, .i .i64 (g ^ k % q)), (3, .i .i64 g), (1, .rf 1 0)], [(5, nums .i64 ((List.range k).map fun k => g ^ k % q)), (1, [.i .i64 q, .i .i64 n])]⟩) (by
    have : (1 : Int) % q = 1 := Int.emod_eq_of_lt (by omega) (by omega)
    simp (disch := first | assumption | omega | (simp only [List.length_cons, List.length_nil, List.length_set, List.length_append, List.length_replicate, List.length_map, List.length_range, List.length_take, List.length_drop, nums_length, bools_length, vecs_length]; first | done | omega)) [nums_nil, this]) ?_ ?_
  · intro k hk
    have w1 : IntKind.i64.wrap ((k : Int) + 1) = (k : Int) + 1 := i64_in _ (by omega)
    have m1 := fMul hq (Int.emod_nonneg (g ^ k) (show q ≠ 0 by omega)) (Int.emod_lt_of_pos (g ^ k) (show 0 < q by omega)) (show 0 ≤ g by omega) g1
    have e1 : g ^ k % q * g % q = g ^ (k + 1) % q := by rw [Int.pow_succ, Int.mul_emod, Int.emod_emod, ← Int.mul_emod]
    rw [e1] at m1
    have hmp := mapTo_succ (fun k => g ^ k % q) k
    have hml : (nums .i64 ((List.range k).map fun k => g ^ k % q)).length = k := by simp [nums]
    have hsn := nums_snoc .i64 ((List.range k).map fun k => g ^ k % q) (g ^ k % q)
    rw [← hmp] at hsn
    have hlt : (k : Int) < (Q : Int) := by omega
    have shQ : shiftV .shl .i64 2 (D : Int) = some (.i .i64 (Q : Int)) := sh
    generalize g ^ (k + 1) % q = V' at *
    generalize hT : (k : Int) = T at *
    generalize g ^ k % q = V at *
    generalize nums .i64 ((List.range k).map fun k => g ^ k % q) = F at *
    generalize nums .i64 ((List.range (k + 1)).map fun k => g ^ k % q) = F' at *
    clear hmp sh e1
    simp (disch := first | assumption | omega | (simp only [List.length_cons, List.length_nil, List.length_set, List.length_append, List.length_replicate, List.length_map, List.length_range, List.length_take, List.length_drop, nums_length, bools_length, vecs_length]; first | done | omega)) [hD, wD, shQ, m1, w1, hT, hsn, hlt, -shiftV_shl, -shiftV_shr]
  · have hml : (nums .i64 ((List.range Q).map fun k => g ^ k % q)).length = Q := by simp [nums]
    have shQ : shiftV .shl .i64 2 (D : Int) = some (.i .i64 (Q : Int)) := sh
    generalize nums .i64 ((List.range Q).map fun k => g ^ k % q) = F at *
    generalize g ^ Q % q = V at *
    clear sh
    simp (disch := first | assumption | omega | (simp only [List.length_cons, List.length_nil, List.length_set, List.length_append, List.length_replicate, List.length_map, List.length_range, List.length_take, List.length_drop, nums_length, bools_length, vecs_length]; first | done | omega)) [hD, wD, shQ, -shiftV_shl, -shiftV_shr]
end Zab.YtcebddjidpbhgaaDoorB
