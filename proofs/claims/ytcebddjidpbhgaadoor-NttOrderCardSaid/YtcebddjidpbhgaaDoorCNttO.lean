/- The statements of chapter 3: the roots. -/
import Derived.Test.YtcebddjidpbhgaaDoorCRef1
import Derived.Test.YtcebddjidpbhgaaDoorCMake
import Derived.Test.YtcebddjidpbhgaaDoorCNum
import Derived.Test.YtcebddjidpbhgaaDoorCNttR
namespace Zab.YtcebddjidpbhgaaDoorC
open Go
open Go.IntWalk (i64_in)
set_option maxRecDepth 100000
set_option linter.unusedSimpArgs false
set_option linter.unusedVariables false
attribute [-simp] getElem?_pos
attribute [local simp ↓] W_loop W_seq W_skip W_ret W_exit W_reg W_cond W_block W_pre cleanO_some freezes_nil freezes_cons frzO_some andThen_normal andThen_ret andThen_exit unblock_normal unblock_ret unblock_exit Ends_normal Ends_ret steps_nil steps_cons step_some st_move st_pick st_bin st_un st_conv st_addr sv_ixA sv_ixS sv_fld sv_ixV st_ixStr st_ext sv_build sv_bsl sv_mkS st_mkfn sv_lenS sv_len st_mn st_mx st_nilChk st_tas st_slc sv_loadg sv_load st_call sv_store sv_box sv_alloc sv_mkR sv_bslR sv_nilR sv_app sv_callK stepsAt_some onSome_some onB_true onB_false onG_tt onG_tf onG_ft onG_ff onG_un optPut_some optMem_some
attribute [local simp] evalO evalL constAV get_cons get_nil put_cons put_nil look_cons look_nil putD_some clean_mk freeze_mk mapS del_cons del_nil keepS_cons keepS_nil keepL_cons keepL_nil memb_cons memb_nil unV pureV convV_i addrV toArgs anyRs hasSl2L fromRetL finR resL resV toRets one Nat.beq Nat.ble shiftV_shr shiftV_shl IntKind.bits fillV List.getElem?_cons_zero List.getElem?_cons_succ List.length_cons List.length_nil List.set_cons_zero List.set_cons_succ setR2 setR3 zrep_eqs binV_i binI_shl binI_shr binI_eqs binV_eqs binV_slcE binV_slcN lendsC_some lends_nil lends_eqs fl_lends lends_rf lendsR_some lends_rs lendsS_some seesAny_no callK1_fn callK2_some callK3_some recvPut_some afterK_some afterK_none putAll_nil putAll_cons hasSlLL_nil hasSlLL_cons recv_os recv_op recv_no recvV_some recv_tp recvT_os recvT_op srcV_rs srcR_some List.append_nil intV_quo intV_rem hasSlL mapR_eqs kill1_eqs frz1_eqs enterS_eqs enterL_eqs isRs_eqs toArg_eqs from1_eqs from_eqs toRet_eqs lentOf_eqs countR_eqs hasSl1_eqs hasSl2_eqs hasSl_eqs cellsOf_ag1 cellsOf_ag2 cellsOf_ag3 cellsOf_ag4 cellsOf_ag5 partV_2 partV_3 partV_4 partV_5 toRet_own ownR_of toArg_rs seenR_all seenR_part appS_rs appR_of srcV_sl srcV_z nilS_z bslS_some dec_t dec_f buildV_some bslV_some boxS_some root_mk ixSV_sl ixSV_rs ixAV_rf ixAV_el ixVV_ag fldV_ag lenV_sl lenV_rs lenV_z lenSV_s loadV_rf loadV_el loadR_some partV_none partV_all partV_some storeV_rf setR_one setR_all cellsOf_ag cellsOf_i cellsOf_b cellsOf_sl cellsOf_z cellsOf_er cellsOf_nl cellsOf_np cellsOf_s mkSV_of mkRS_of fl_map fl_kill fl_frz fl_enterS fl_enterL fl_lentOf fl_toArg fl_isRs fl_toRet fl_from1 fl_from fl_cells fl_countR nums_length nums_get nums_set nums_append nums_snoc nums_drop nums_take nums_zrep nums_hasSl bools_length bools_get bools_set bools_snoc bools_zrep bools_hasSl vecs_length vecs_get vecs_snoc slcV_sl idxO idx Nat.zero_add Nat.mul_one Nat.add_zero stepsAt_some onSome_some onB_true onB_false onG_tt onG_tf onG_ft onG_ff onG_un optPut_some optMem_some

theorem first3 : FF tab 35 [] = some ⟨.b true, []⟩ := FF_of (n := 60) (by kernel_rfl)
theorem fPow (a : Int) {e p : Int} (h : Right p) (he : 0 ≤ e) (he2 : e ≤ 9223372036854775807) : FF tab 37 [.i .i64 a, .i .i64 e, .i .i64 p] = some ⟨.i .i64 (a ^ e.toNat % p), []⟩ := by
  refine call_by (A := A37) rfl rfl ?_
  have lo := h.lo
  have hn : ¬ e < 0 := by omega
  have h1 : (1 : Int).tmod p = 1 := by rw [Int.tmod_eq_emod_of_nonneg (by omega)]; exact Int.emod_eq_of_lt (by omega) (by omega)
  have hp0 : p ≠ 0 := by omega
  simp (disch := first | assumption | omega | (simp only [List.length_cons, List.length_nil, List.length_set, List.length_append, List.length_replicate, List.length_map, List.length_range, List.length_take, List.length_drop, nums_length, bools_length, vecs_length]; first | done | omega)) [A37, hn, h1, hp0, fMod _ h]
  refine w_rounds (I := fun m S => ∃ x out f : Int, S.clean [8, 7, 2, 1] [] = ⟨[(8, .i .i64 x), (7, .i .i64 out), (2, .i .i64 p), (1, .i .i64 f)], []⟩ ∧ 0 ≤ f ∧ f ≤ 9223372036854775807 ∧ m = f.toNat ∧
    0 ≤ out ∧ out < p ∧ 0 ≤ x ∧ x < p ∧ (out * x ^ f.toNat) % p = a ^ e.toNat % p) (m := e.toNat) ?_ ?_
  · rintro m S ⟨x, out, f, hS, f0, f1, rfl, o0, o1, x0, x1, hx⟩
    rw [hS]
    have q1 : f.tmod 2 = f % 2 := Int.tmod_eq_emod_of_nonneg f0
    have q2 : f.tdiv 2 = f / 2 := Int.tdiv_eq_ediv_of_nonneg f0
    have q3 : IntKind.i64.wrap (f / 2) = f / 2 := i64_in _ (by omega)
    have q4 : (f / 2).toNat = f.toNat / 2 := by omega
    have m1 := fMul h o0 o1 x0 x1
    have m2 := fMul h x0 x1 x0 x1
    by_cases hf : 0 < f
    · by_cases hb : f % 2 = 1
      · simp (disch := first | assumption | omega | (simp only [List.length_cons, List.length_nil, List.length_set, List.length_append, List.length_replicate, List.length_map, List.length_range, List.length_take, List.length_drop, nums_length, bools_length, vecs_length]; first | done | omega)) [hf, hb, q1, q2, q3, m1, m2]
        refine ⟨(f / 2).toNat, by omega, _, _, _, ⟨rfl, rfl, rfl⟩, by omega, by omega, rfl, Int.emod_nonneg _ (by omega), Int.emod_lt_of_pos _ (by omega), Int.emod_nonneg _ (by omega), Int.emod_lt_of_pos _ (by omega), ?_⟩
        rw [q4, odd_round _ _ _ _ (by omega), hx]
      · simp (disch := first | assumption | omega | (simp only [List.length_cons, List.length_nil, List.length_set, List.length_append, List.length_replicate, List.length_map, List.length_range, List.length_take, List.length_drop, nums_length, bools_length, vecs_length]; first | done | omega)) [hf, hb, q1, q2, q3, m1, m2]
        refine ⟨(f / 2).toNat, by omega, _, _, _, ⟨rfl, rfl, rfl⟩, by omega, by omega, rfl, o0, o1, Int.emod_nonneg _ (by omega), Int.emod_lt_of_pos _ (by omega), ?_⟩
        rw [q4, even_round _ _ _ _ (by omega), hx]
    · simp (disch := first | assumption | omega | (simp only [List.length_cons, List.length_nil, List.length_set, List.length_append, List.length_replicate, List.length_map, List.length_range, List.length_take, List.length_drop, nums_length, bools_length, vecs_length]; first | done | omega)) [hf]
      have : f = 0 := by omega
      subst this
      rw [← hx]
      simp only [Int.toNat_zero, Int.pow_zero, Int.mul_one]
      exact (Int.emod_eq_of_lt o0 o1).symm
  · refine ⟨a % p, 1, e, ?_, he, he2, rfl, by omega, by omega, Int.emod_nonneg _ (by omega), Int.emod_lt_of_pos _ (by omega), ?_⟩
    · simp []
    · rw [Int.one_mul, pow_mod]

set_option maxHeartbeats 8000000 in
theorem NttOrder (q0 : Int) (hq0 : inK .i64 q0) (n0 : Int) (hn0 : inK .i64 n0) (b : Bool) : FF tab 7 [.i .i64 q0, .i .i64 n0, .b b] = some ⟨.b true, []⟩ := by
  refine call_by (A := A7) rfl rfl ?_
  have h1 := first3
  have hR := MakeRing q0 n0 hq0 hn0
  have hq := mkQ_right (q := q0)
  have hd4 := mkN_four (n := n0)
  generalize mkQ q0 = q at *
  generalize mkN n0 = n at *
  have lo := hq.lo
  have hi := hq.hi
  obtain ⟨N, hd, hb⟩ : ∃ N : Int, Deg N ∧ ((b = false ∧ N = n ∧ N ≤ 32) ∨ (b = true ∧ N = 256)) := by
    cases b with
    | false => exact ⟨n, by unfold Deg; omega, .inl ⟨rfl, rfl, by omega⟩⟩
    | true => exact ⟨256, by unfold Deg; omega, .inr ⟨rfl, rfl⟩⟩
  have dlo := hd.lo
  have dhi := hd.hi
  have hRt := nRoot hq hd
  obtain ⟨d1, d2, h3, h4, h5, h6, h7, h8, h9⟩ := dep_ok hq hd
  obtain ⟨r1, r2, r3⟩ := rt_isRt hq hd
  have hl2 := pow_le d2
  have sh0 := shl_one (d := dep q N) (by omega)
  have sh1 := shl_one (d := dep q N + 1) (by omega)
  have sh2 := shl_one (d := dep q N + 2) (by omega)
  have wD := u64_small (a := dep q N) (by omega)
  have wD1 := u64_small (a := dep q N + 1) (by omega)
  have wD2 := u64_small (a := dep q N + 2) (by omega)
  have p1 : 2 ^ (dep q N + 1) = 2 * 2 ^ dep q N := by rw [Nat.pow_succ]; omega
  have p2 : 2 ^ (dep q N + 2) = 4 * 2 ^ dep q N := by rw [Nat.pow_succ, Nat.pow_succ]; omega
  have P0 := fPow (rt q N) hq (e := ((2 ^ dep q N : Nat) : Int)) (by omega) (by omega)
  have P1 := fPow (rt q N) hq (e := ((2 ^ (dep q N + 1) : Nat) : Int)) (by omega) (by omega)
  have PA := fun g : Int => fPow g hq (e := ((2 ^ dep q N : Nat) : Int)) (by omega) (by omega)
  rw [Int.toNat_natCast] at P0 P1
  simp only [Int.toNat_natCast] at PA
  have e0 : rt q N ^ 2 ^ dep q N % q = q - 1 := r1
  have e1 : rt q N ^ 2 ^ (dep q N + 1) % q = 1 := by
    have h := (ntt_ring hq hd).round 1
    rw [show 2 ^ dep q N * (2 * 1) = 2 ^ (dep q N + 1) by rw [p1]; omega] at h
    rw [show _ % q = _ % q from h]
    exact Int.emod_eq_of_lt (by omega) (by omega)
  rw [e0] at P0
  rw [e1] at P1
  have hle : ((2 ^ dep q N : Nat) : Int) ≤ N := by
    have : 1 * 2 ^ dep q N ≤ N.toNat / 2 ^ dep q N * 2 ^ dep q N := Nat.mul_le_mul_right _ h4
    omega
  have c1 : (2 : Int) ^ (dep q N + 1) = ((2 ^ (dep q N + 1) : Nat) : Int) := by simp
  have c2 : (2 : Int) ^ (dep q N + 2) = ((2 ^ (dep q N + 2) : Nat) : Int) := by simp
  rw [c1] at h8 h9
  rw [c2] at h9
  have t1 : (q - 1).tmod ((2 ^ (dep q N + 1) : Nat) : Int) = 0 := by rw [Int.tmod_eq_emod_of_nonneg (by omega)]; exact h8
  have t2 : (q - 1).tmod ((2 ^ (dep q N + 2) : Nat) : Int) = (q - 1) % ((2 ^ (dep q N + 2) : Nat) : Int) := Int.tmod_eq_emod_of_nonneg (by omega)
  have wq : IntKind.i64.wrap (q - 1) = q - 1 := i64_in _ (by omega)
  have wd1 : IntKind.i64.wrap ((dep q N : Int) + 1) = ((dep q N + 1 : Nat) : Int) := i64_in _ (by omega)
  have wd2 : IntKind.i64.wrap ((dep q N : Int) + 2) = ((dep q N + 2 : Nat) : Int) := i64_in _ (by omega)
  have hNum := Number (dep q N : Int) 100 (by omega) (by omega)
  rw [show (dep q N : Int) % 100 = dep q N by omega] at hNum
  have hno : ¬ (q = 3329 ∧ N = 256) → ¬ (q = 8380417 ∧ N = 256) → ∃ R : Nat, rt q N = 2 + (R : Int) ∧ ∀ j : Nat, j < R → ¬ (2 + (j : Int)) ^ 2 ^ dep q N % q = q - 1 := fun n1 n2 => by
    obtain ⟨_, l2, _⟩ := leastRt_ok h5 h6
    exact ⟨leastRt q (dep q N), by unfold rt; rw [if_neg n1, if_neg n2], fun j hj => l2 j hj⟩
  have z1 : ((2 ^ (dep q N + 1) : Nat) : Int) ≠ 0 := by omega
  have z2 : ((2 ^ (dep q N + 2) : Nat) : Int) ≠ 0 := by omega
  have zd : ¬ (dep q N : Int) < 1 := by omega
  have nle : ¬ N < ((2 ^ dep q N : Nat) : Int) := by omega
  clear r1 h3 h4 h5 h6 h7 h8 e0 e1 c1 c2 p1 p2 d1
  have h9' : (q - 1) % ((2 ^ (dep q N + 2) : Nat) : Int) = 0 → ¬ ((2 ^ (dep q N + 1) : Nat) : Int) ≤ N := fun a b => h9 ⟨a, b⟩
  clear h9
  generalize hrt : rt q N = g at *
  generalize ((2 ^ (dep q N + 2) : Nat) : Int) = Q2 at *
  generalize ((2 ^ (dep q N + 1) : Nat) : Int) = Q1 at *
  generalize 2 ^ dep q N = Q0 at *
  generalize ((dep q N + 2 : Nat) : Int) = D2 at *
  generalize ((dep q N + 1 : Nat) : Int) = D1 at *
  generalize (dep q N : Int) = D at *
  generalize (Q0 : Int) = QI at *
  rcases hb with ⟨rfl, rfl, h32⟩ | ⟨rfl, rfl⟩
  · obtain ⟨R, hg, hj⟩ := hno (by omega) (by omega)
    subst hg
    clear hno
    by_cases hz : (q - 1) % Q2 = 0
    · have hw := h9' hz
      simp (disch := first | assumption | omega | (simp only [List.length_cons, List.length_nil, List.length_set, List.length_append, List.length_replicate, List.length_map, List.length_range, List.length_take, List.length_drop, nums_length, bools_length, vecs_length]; first | done | omega)) [A7, h1, hR, hRt, sh0, sh1, sh2, wD, wD1, wD2, wd1, wd2, wq, zd, nle, z1, z2, t1, t2, P0, P1, hz, hw, -shiftV_shl, -shiftV_shr]
      refine w_heads R (fun i => ⟨[(12, .i .i64 (2 + i)), (10, .i .i64 D), (9, .i .i64 (2 + R)), (8, .rf 8 0), (7, .b true)], [(8, [.i .i64 q, .i .i64 N])]⟩) (by simp (disch := first | assumption | omega | (simp only [List.length_cons, List.length_nil, List.length_set, List.length_append, List.length_replicate, List.length_map, List.length_range, List.length_take, List.length_drop, nums_length, bools_length, vecs_length]; first | done | omega)) []) ?_ ?_
      · intro i hi'
        have w1 : IntKind.i64.wrap (2 + (i : Int) + 1) = 2 + ((i : Int) + 1) := by rw [i64_in _ (by omega)]; omega
        have hP := PA (2 + (i : Int))
        have hn := hj i hi'
        have hlt : 2 + (i : Int) < 2 + (R : Int) := by omega
        generalize (2 + (i : Int)) ^ Q0 % q = V at *
        clear PA hj
        generalize hT : (i : Int) = T at *
        simp (disch := first | assumption | omega | (simp only [List.length_cons, List.length_nil, List.length_set, List.length_append, List.length_replicate, List.length_map, List.length_range, List.length_take, List.length_drop, nums_length, bools_length, vecs_length]; first | done | omega)) [sh0, wD, wq, w1, hP, hn, hlt, hT, -shiftV_shl, -shiftV_shr]
      · simp (disch := first | assumption | omega | (simp only [List.length_cons, List.length_nil, List.length_set, List.length_append, List.length_replicate, List.length_map, List.length_range, List.length_take, List.length_drop, nums_length, bools_length, vecs_length]; first | done | omega)) [hNum]
    · clear h9'
      simp (disch := first | assumption | omega | (simp only [List.length_cons, List.length_nil, List.length_set, List.length_append, List.length_replicate, List.length_map, List.length_range, List.length_take, List.length_drop, nums_length, bools_length, vecs_length]; first | done | omega)) [A7, h1, hR, hRt, sh0, sh1, sh2, wD, wD1, wD2, wd1, wd2, wq, zd, nle, z1, z2, t1, t2, P0, P1, hz, -shiftV_shl, -shiftV_shr]
      refine w_heads R (fun i => ⟨[(12, .i .i64 (2 + i)), (10, .i .i64 D), (9, .i .i64 (2 + R)), (8, .rf 8 0), (7, .b true)], [(8, [.i .i64 q, .i .i64 N])]⟩) (by simp (disch := first | assumption | omega | (simp only [List.length_cons, List.length_nil, List.length_set, List.length_append, List.length_replicate, List.length_map, List.length_range, List.length_take, List.length_drop, nums_length, bools_length, vecs_length]; first | done | omega)) []) ?_ ?_
      · intro i hi'
        have w1 : IntKind.i64.wrap (2 + (i : Int) + 1) = 2 + ((i : Int) + 1) := by rw [i64_in _ (by omega)]; omega
        have hP := PA (2 + (i : Int))
        have hn := hj i hi'
        have hlt : 2 + (i : Int) < 2 + (R : Int) := by omega
        generalize (2 + (i : Int)) ^ Q0 % q = V at *
        clear PA hj
        generalize hT : (i : Int) = T at *
        simp (disch := first | assumption | omega | (simp only [List.length_cons, List.length_nil, List.length_set, List.length_append, List.length_replicate, List.length_map, List.length_range, List.length_take, List.length_drop, nums_length, bools_length, vecs_length]; first | done | omega)) [sh0, wD, wq, w1, hP, hn, hlt, hT, -shiftV_shl, -shiftV_shr]
      · simp (disch := first | assumption | omega | (simp only [List.length_cons, List.length_nil, List.length_set, List.length_append, List.length_replicate, List.length_map, List.length_range, List.length_take, List.length_drop, nums_length, bools_length, vecs_length]; first | done | omega)) [hNum]
  · by_cases e1 : q = 3329
    · have e1' : decide (q = 3329) = true := decide_eq_true e1
      clear hno PA e1
      by_cases hz : (q - 1) % Q2 = 0
      · have hw := h9' hz
        simp (disch := first | assumption | omega | (simp only [List.length_cons, List.length_nil, List.length_set, List.length_append, List.length_replicate, List.length_map, List.length_range, List.length_take, List.length_drop, nums_length, bools_length, vecs_length]; first | done | omega)) [A7, h1, hR, hRt, sh0, sh1, sh2, wD, wD1, wD2, wd1, wd2, wq, zd, nle, z1, z2, t1, t2, P0, P1, hz, hw, e1', -shiftV_shl, -shiftV_shr]
      · clear h9'
        simp (disch := first | assumption | omega | (simp only [List.length_cons, List.length_nil, List.length_set, List.length_append, List.length_replicate, List.length_map, List.length_range, List.length_take, List.length_drop, nums_length, bools_length, vecs_length]; first | done | omega)) [A7, h1, hR, hRt, sh0, sh1, sh2, wD, wD1, wD2, wd1, wd2, wq, zd, nle, z1, z2, t1, t2, P0, P1, hz, e1', -shiftV_shl, -shiftV_shr]
    · by_cases e2 : q = 8380417
      · have e2' : decide (q = 8380417) = true := decide_eq_true e2
        clear hno PA e2
        by_cases hz : (q - 1) % Q2 = 0
        · have hw := h9' hz
          simp (disch := first | assumption | omega | (simp only [List.length_cons, List.length_nil, List.length_set, List.length_append, List.length_replicate, List.length_map, List.length_range, List.length_take, List.length_drop, nums_length, bools_length, vecs_length]; first | done | omega)) [A7, h1, hR, hRt, sh0, sh1, sh2, wD, wD1, wD2, wd1, wd2, wq, zd, nle, z1, z2, t1, t2, P0, P1, hz, hw, e1, e2', -shiftV_shl, -shiftV_shr]
        · clear h9'
          simp (disch := first | assumption | omega | (simp only [List.length_cons, List.length_nil, List.length_set, List.length_append, List.length_replicate, List.length_map, List.length_range, List.length_take, List.length_drop, nums_length, bools_length, vecs_length]; first | done | omega)) [A7, h1, hR, hRt, sh0, sh1, sh2, wD, wD1, wD2, wd1, wd2, wq, zd, nle, z1, z2, t1, t2, P0, P1, hz, e1, e2', -shiftV_shl, -shiftV_shr]
      · obtain ⟨R, hg, hj⟩ := hno (by omega) (by omega)
        subst hg
        clear hno
        by_cases hz : (q - 1) % Q2 = 0
        · have hw := h9' hz
          simp (disch := first | assumption | omega | (simp only [List.length_cons, List.length_nil, List.length_set, List.length_append, List.length_replicate, List.length_map, List.length_range, List.length_take, List.length_drop, nums_length, bools_length, vecs_length]; first | done | omega)) [A7, h1, hR, hRt, sh0, sh1, sh2, wD, wD1, wD2, wd1, wd2, wq, zd, nle, z1, z2, t1, t2, P0, P1, hz, hw, e1, e2, -shiftV_shl, -shiftV_shr]
          refine w_heads R (fun i => ⟨[(12, .i .i64 (2 + i)), (10, .i .i64 D), (9, .i .i64 (2 + R)), (8, .rf 8 0), (7, .b true)], [(8, [.i .i64 q, .i .i64 256])]⟩) (by simp (disch := first | assumption | omega | (simp only [List.length_cons, List.length_nil, List.length_set, List.length_append, List.length_replicate, List.length_map, List.length_range, List.length_take, List.length_drop, nums_length, bools_length, vecs_length]; first | done | omega)) []) ?_ ?_
          · intro i hi'
            have w1 : IntKind.i64.wrap (2 + (i : Int) + 1) = 2 + ((i : Int) + 1) := by rw [i64_in _ (by omega)]; omega
            have hP := PA (2 + (i : Int))
            have hn := hj i hi'
            have hlt : 2 + (i : Int) < 2 + (R : Int) := by omega
            generalize (2 + (i : Int)) ^ Q0 % q = V at *
            clear PA hj
            generalize hT : (i : Int) = T at *
            simp (disch := first | assumption | omega | (simp only [List.length_cons, List.length_nil, List.length_set, List.length_append, List.length_replicate, List.length_map, List.length_range, List.length_take, List.length_drop, nums_length, bools_length, vecs_length]; first | done | omega)) [sh0, wD, wq, w1, hP, hn, hlt, hT, -shiftV_shl, -shiftV_shr]
          · simp (disch := first | assumption | omega | (simp only [List.length_cons, List.length_nil, List.length_set, List.length_append, List.length_replicate, List.length_map, List.length_range, List.length_take, List.length_drop, nums_length, bools_length, vecs_length]; first | done | omega)) [hNum]
        · clear h9'
          simp (disch := first | assumption | omega | (simp only [List.length_cons, List.length_nil, List.length_set, List.length_append, List.length_replicate, List.length_map, List.length_range, List.length_take, List.length_drop, nums_length, bools_length, vecs_length]; first | done | omega)) [A7, h1, hR, hRt, sh0, sh1, sh2, wD, wD1, wD2, wd1, wd2, wq, zd, nle, z1, z2, t1, t2, P0, P1, hz, e1, e2, -shiftV_shl, -shiftV_shr]
          refine w_heads R (fun i => ⟨[(12, .i .i64 (2 + i)), (10, .i .i64 D), (9, .i .i64 (2 + R)), (8, .rf 8 0), (7, .b true)], [(8, [.i .i64 q, .i .i64 256])]⟩) (by simp (disch := first | assumption | omega | (simp only [List.length_cons, List.length_nil, List.length_set, List.length_append, List.length_replicate, List.length_map, List.length_range, List.length_take, List.length_drop, nums_length, bools_length, vecs_length]; first | done | omega)) []) ?_ ?_
          · intro i hi'
            have w1 : IntKind.i64.wrap (2 + (i : Int) + 1) = 2 + ((i : Int) + 1) := by rw [i64_in _ (by omega)]; omega
            have hP := PA (2 + (i : Int))
            have hn := hj i hi'
            have hlt : 2 + (i : Int) < 2 + (R : Int) := by omega
            generalize (2 + (i : Int)) ^ Q0 % q = V at *
            clear PA hj
            generalize hT : (i : Int) = T at *
            simp (disch := first | assumption | omega | (simp only [List.length_cons, List.length_nil, List.length_set, List.length_append, List.length_replicate, List.length_map, List.length_range, List.length_take, List.length_drop, nums_length, bools_length, vecs_length]; first | done | omega)) [sh0, wD, wq, w1, hP, hn, hlt, hT, -shiftV_shl, -shiftV_shr]
          · simp (disch := first | assumption | omega | (simp only [List.length_cons, List.length_nil, List.length_set, List.length_append, List.length_replicate, List.length_map, List.length_range, List.length_take, List.length_drop, nums_length, bools_length, vecs_length]; first | done | omega)) [hNum]
end Zab.YtcebddjidpbhgaaDoorC
