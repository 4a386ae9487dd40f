/- The statements of chapter 7: what rises stays so. -/
import Derived.Test.YtcebddjidpbhgaaDoorBRouQ
namespace Zab.YtcebddjidpbhgaaDoorB
open Go
open Go.IntWalk (i64_in)
set_option maxRecDepth 100000
set_option linter.unusedSimpArgs false
set_option linter.unusedVariables false
attribute [-simp] getElem?_pos
attribute [local simp ↓] W_loop W_seq W_skip W_ret W_exit W_reg W_cond W_block W_pre cleanO_some freezes_nil freezes_cons frzO_some andThen_normal andThen_ret andThen_exit unblock_normal unblock_ret unblock_exit Ends_normal Ends_ret steps_nil steps_cons step_some st_move st_pick st_bin st_un st_conv st_addr sv_ixA sv_ixS sv_fld sv_ixV st_ixStr st_ext sv_build sv_bsl sv_mkS st_mkfn sv_lenS sv_len st_mn st_mx st_nilChk st_tas st_slc sv_loadg sv_load st_call sv_store sv_box sv_alloc sv_mkR sv_bslR sv_nilR sv_app st_callK stepsAt_some onSome_some onB_true onB_false onG_tt onG_tf onG_ft onG_ff onG_un optPut_some optMem_some
attribute [local simp] evalO evalL constAV get_cons get_nil put_cons put_nil look_cons look_nil putD_some clean_mk freeze_mk mapS del_cons del_nil keepS_cons keepS_nil keepL_cons keepL_nil memb_cons memb_nil unV pureV convV_i addrV toArgs anyRs hasSl2L fromRetL finR resL resV toRets one Nat.beq Nat.ble shiftV_shr shiftV_shl IntKind.bits fillV List.getElem?_cons_zero List.getElem?_cons_succ List.length_cons List.length_nil List.set_cons_zero List.set_cons_succ setR2 setR3 zrep_eqs binV_i binI_shl binI_shr binI_eqs binV_eqs intV_quo intV_rem hasSlL mapR_eqs kill1_eqs frz1_eqs enterS_eqs enterL_eqs isRs_eqs toArg_eqs from1_eqs from_eqs toRet_eqs lentOf_eqs countR_eqs hasSl1_eqs hasSl2_eqs hasSl_eqs cellsOf_ag1 cellsOf_ag2 cellsOf_ag3 cellsOf_ag4 cellsOf_ag5 partV_2 partV_3 partV_4 partV_5 toRet_own ownR_of toArg_rs seenR_all seenR_part appS_rs appR_of srcV_sl srcV_z nilS_z bslS_some dec_t dec_f buildV_some bslV_some boxS_some root_mk ixSV_sl ixSV_rs ixAV_rf ixAV_el ixVV_ag fldV_ag lenV_sl lenV_rs lenV_z lenSV_s loadV_rf loadV_el loadR_some partV_none partV_all partV_some storeV_rf setR_one setR_all cellsOf_ag cellsOf_i cellsOf_b cellsOf_sl cellsOf_z cellsOf_er cellsOf_nl cellsOf_np cellsOf_s mkSV_of mkRS_of fl_map fl_kill fl_frz fl_enterS fl_enterL fl_lentOf fl_toArg fl_isRs fl_toRet fl_from1 fl_from fl_cells fl_countR nums_length nums_get nums_set nums_append nums_snoc nums_drop nums_take nums_zrep nums_hasSl bools_length bools_get bools_set bools_snoc bools_zrep bools_hasSl vecs_length vecs_get vecs_snoc slcV_sl idxO idx Nat.zero_add Nat.mul_one Nat.add_zero stepsAt_some onSome_some onB_true onB_false onG_tt onG_tf onG_ft onG_ff onG_un optPut_some optMem_some

set_option maxHeartbeats 4000000 in
theorem RoundRises (k d : Int) : FF tab 3 [.i .i64 k, .i .i64 d] = some ⟨.b true, []⟩ := by
  refine call_by (A := A3) rfl rfl ?_
  have h1 := first7
  have hK := Number k 4 (by omega) (by omega)
  have hDn := Number d 4 (by omega) (by omega)
  have k0 : 0 ≤ k % 4 ∧ k % 4 < 4 := by omega
  have d0 : 0 ≤ d % 4 ∧ d % 4 < 4 := by omega
  have eL : ([.i .i64 17, .i .i64 97, .i .i64 257, .i .i64 3329] : List AV) = nums .i64 riseL := rfl
  have lL : riseL.length = 4 := rfl
  have lL' : (nums .i64 riseL).length = 4 := rfl
  have g1 := nums_get (k := .i64) (L := riseL) (j := (k % 4).toNat) (by omega)
  have hin := riseL_in (j := (k % 4).toNat) (by omega)
  generalize k % 4 = K at *
  generalize d % 4 = D0 at *
  generalize ni riseL K.toNat = q at *
  generalize nums .i64 riseL = cL at *
  obtain ⟨D, hD⟩ : ∃ D, D0 + 1 = D := ⟨_, rfl⟩
  have w0 : IntKind.i64.wrap D = D := i64_in _ (by omega)
  have u1 := u64_in (a := D) (by omega) (by omega)
  have hp := P_bound (d := D) (by omega) (by omega)
  have s1 := shl_P (a := 1) (d := D) (b := P D) (by omega) (by omega) (by omega) (by omega)
  have hdin : D ∈ [(1 : Int), 2, 3, 4] := by simp; omega
  have hP16 : P D ≤ 16 := by
    simp only [List.mem_cons, List.not_mem_nil, or_false] at hdin
    rcases hdin with e | e | e | e <;> rw [e] <;> decide
  obtain ⟨c1, c2, c3⟩ := okD_of (okD_all q hin _ hdin)
  have hq : Right q := by
    simp only [List.mem_cons, List.not_mem_nil, or_false] at hin
    unfold Right; omega
  have hqh : q ≤ 3329 := by
    simp only [List.mem_cons, List.not_mem_nil, or_false] at hin
    omega
  have lo := hq.lo
  have hb : Bits q D := ⟨by omega, by omega, by omega⟩
  have b0 : ¬ q ≤ P D := by omega
  obtain ⟨M, hM⟩ : ∃ M : Nat, (M : Int) = P D := ⟨(P D).toNat, by omega⟩
  have hMt : (P D).toNat = M := by omega
  obtain ⟨N, hN⟩ : ∃ N : Nat, (N : Int) = q := ⟨q.toNat, by omega⟩
  have hNt : q.toNat = N := by omega
  rw [hNt] at c1 c2 c3
  rw [hMt] at c2
  have wq3 : IntKind.i64.wrap (q + 3) = q + 3 := i64_in _ (by omega)
  have wq1 : IntKind.i64.wrap (q - 1) = q - 1 := i64_in _ (by omega)
  have wP1 : IntKind.i64.wrap (P D - 1) = P D - 1 := i64_in _ (by omega)
  simp (disch := first | assumption | omega | (simp only [List.length_cons, List.length_nil, List.length_set, List.length_append, List.length_replicate, List.length_map, List.length_range, List.length_take, List.length_drop, nums_length, bools_length, vecs_length]; first | done | omega)) [A3, h1, hK, hDn, hD, ↓eL, g1, w0, u1, s1, b0, hMt, -shiftV_shl]
  refine w_heads ((N + 3) / 4) (fun i => ⟨[(10, .i .i64 (4 * i : Nat)), (9, .i .i64 (lastAt q D (min (4 * i) N))), (8, .rs 38 0 M 1), (7, .i .i64 (P D)), (6, .rf 6 0), (5, .b true), (1, .i .i64 D)], [(38, nums .i64 (cl q D M (min (4 * i) N))), (6, [.i .i64 q, .i .i64 4])]⟩) (by
    have e : min (4 * 0) N = 0 := by omega
    rw [e, cl_zero]
    simp (disch := first | assumption | omega | (simp only [List.length_cons, List.length_nil, List.length_set, List.length_append, List.length_replicate, List.length_map, List.length_range, List.length_take, List.length_drop, nums_length, bools_length, vecs_length]; first | done | omega)) [lastAt]) ?_ ?_
  · intro i hi
    have hlt : 4 * i < N := by omega
    have hmin : min (4 * i) N = 4 * i := by omega
    rw [hmin]
    have hA : ((4 * i : Nat) : Int) < q := by omega
    have hA0 : 0 ≤ ((4 * i : Nat) : Int) := by omega
    have hA4 : ((4 * (i + 1) : Nat) : Int) = ((4 * i : Nat) : Int) + 4 := by omega
    have hmin2 : min (4 * (i + 1)) N = min (4 * i + 4) N := by omega
    rw [hmin2, hA4]
    generalize 4 * i = a at *
    have hX : FF tab 20 [(.ag [.i .i64 (q), .i .i64 (4)]), .i .i64 D, .sl [.i .i64 a, .i .i64 (min (a + 1) (q - 1)), .i .i64 (min (a + 2) (q - 1)), .i .i64 (min (a + 3) (q - 1))] 4] = some ⟨.tp [.os (nums .i64 (downL q D [(a : Int), min (a + 1) (q - 1), min (a + 2) (q - 1), min (a + 3) (q - 1)])) 4 1, .nl], []⟩ :=
      rDown q 4 (.mk .i64 [(a : Int), min (a + 1) (q - 1), min (a + 2) (q - 1), min (a + 3) (q - 1)]) hb (vecBad_zero.2 ⟨hq, by unfold Deg; omega, rfl, by
        intro x hx
        simp only [List.mem_cons, List.not_mem_nil, or_false] at hx
        omega⟩)
    have hVl : (downL q D [(a : Int), min (a + 1) (q - 1), min (a + 2) (q - 1), min (a + 3) (q - 1)]).length = 4 := rfl
    have hVat : ∀ j : Nat, j < 4 → a + j < N → ni (downL q D [(a : Int), min (a + 1) (q - 1), min (a + 2) (q - 1), min (a + 3) (q - 1)]) j = downN q D ((a + j : Nat) : Int) := by
      intro j hj hlt
      have : j = 0 ∨ j = 1 ∨ j = 2 ∨ j = 3 := by omega
      rcases this with rfl | rfl | rfl | rfl
      · rfl
      · show downN q D (min (a + 1) (q - 1)) = _; congr 1; omega
      · show downN q D (min (a + 2) (q - 1)) = _; congr 1; omega
      · show downN q D (min (a + 3) (q - 1)) = _; congr 1; omega
    generalize downL q D [(a : Int), min (a + 1) (q - 1), min (a + 2) (q - 1), min (a + 3) (q - 1)] = V at *
    have wa1 : IntKind.i64.wrap ((a : Int) + 1) = a + 1 := i64_in _ (by omega)
    have wa2 : IntKind.i64.wrap ((a : Int) + 2) = a + 2 := i64_in _ (by omega)
    have wa3 : IntKind.i64.wrap ((a : Int) + 3) = a + 3 := i64_in _ (by omega)
    have wa4 : IntKind.i64.wrap ((a : Int) + 4) = a + 4 := i64_in _ (by omega)
    have hcc : (a : Int) + 3 < q + 3 := by omega
    simp (disch := first | assumption | omega | (simp only [List.length_cons, List.length_nil, List.length_set, List.length_append, List.length_replicate, List.length_map, List.length_range, List.length_take, List.length_drop, nums_length, bools_length, vecs_length]; first | done | omega)) [hX, wa1, wa2, wa3, wq3, wq1, hcc, mn2]
    refine w_heads (min 4 (N - a)) (fun j => ⟨[(14, .i .i64 (j : Nat)), (12, .sl (nums .i64 V) 4), (10, .i .i64 a), (9, .i .i64 (lastAt q D (a + j))), (8, .rs 38 0 M 1), (7, .i .i64 (P D)), (6, .rf 6 0), (5, .b true), (1, .i .i64 D)], [(38, nums .i64 (cl q D M (a + j))), (6, [.i .i64 q, .i .i64 4])]⟩) (by simp (disch := first | assumption | omega | (simp only [List.length_cons, List.length_nil, List.length_set, List.length_append, List.length_replicate, List.length_map, List.length_range, List.length_take, List.length_drop, nums_length, bools_length, vecs_length]; first | done | omega)) []) ?_ ?_
    · intro j hj
      have hj4 : (j : Int) < 4 := by omega
      have hajN : a + j < N := by omega
      have haj : (a : Int) + j < q := by omega
      have waj : IntKind.i64.wrap ((a : Int) + (j : Int)) = (a : Int) + (j : Int) := i64_in _ (by omega)
      have wj : IntKind.i64.wrap ((j : Int) + 1) = (j : Int) + 1 := i64_in _ (by omega)
      have hjn : (j : Int).toNat = j := Int.toNat_natCast _
      have hgV := nums_get (k := .i64) (L := V) (j := j) (by omega)
      rw [hVat j (by omega) hajN] at hgV
      have hvb := downN_bound (a := ((a + j : Nat) : Int)) hb
      have hlb := lastAt_bound hb (a + j)
      have hst := c1 (a + j) hajN
      have hln : lastAt q D (a + (j + 1)) = downN q D ((a + j : Nat) : Int) := rfl
      have hcs := cl_step (q := q) (d := D) (M := M) (t := a + j) hvb.1 (by omega)
      have hcl := cl_len q D M (a + j)
      have hgc := nums_get (k := .i64) (L := cl q D M (a + j)) (j := (downN q D ((a + j : Nat) : Int)).toNat) (by omega)
      have hcb := cnt_bound q D (downN q D ((a + j : Nat) : Int)).toNat (a + j)
      rw [← cl_ni (M := M) (by omega)] at hcb
      have wc : IntKind.i64.wrap (ni (cl q D M (a + j)) (downN q D ((a + j : Nat) : Int)).toNat + 1) = ni (cl q D M (a + j)) (downN q D ((a + j : Nat) : Int)).toNat + 1 := i64_in _ (by omega)
      rw [show a + j + 1 = a + (j + 1) from rfl] at hcs
      generalize cl q D M (a + (j + 1)) = C' at *
      generalize cl q D M (a + j) = C at *
      rw [hln]
      generalize downN q D ((a + j : Nat) : Int) = v at *
      generalize lastAt q D (a + j) = la at *
      generalize ni C v.toNat = cv at *
      have wla : IntKind.i64.wrap (la + 1) = la + 1 := i64_in _ (by omega)
      have v0 : ¬ v < 0 := by omega
      have v1 : ¬ P D ≤ v := by omega
      have v2 : v < (M : Int) := by omega
      generalize hT : (j : Int) = T at *
      by_cases e1 : v = la
      · simp (disch := first | assumption | omega | (simp only [List.length_cons, List.length_nil, List.length_set, List.length_append, List.length_replicate, List.length_map, List.length_range, List.length_take, List.length_drop, nums_length, bools_length, vecs_length]; first | done | omega)) [hj4, haj, waj, wj, hjn, hgV, wla, wP1, v0, v1, ← e1, hgc, wc, nums_set, hcs, hT]
      · by_cases e2 : v = la + 1
        · have e2' := eq_true e2
          simp (disch := first | assumption | omega | (simp only [List.length_cons, List.length_nil, List.length_set, List.length_append, List.length_replicate, List.length_map, List.length_range, List.length_take, List.length_drop, nums_length, bools_length, vecs_length]; first | done | omega)) [hj4, haj, waj, wj, hjn, hgV, wla, wP1, v0, v1, e1, e2', hgc, wc, nums_set, hcs, hT]
        · obtain ⟨e3, e4⟩ : v = 0 ∧ la = P D - 1 := by
            rcases hst with h | h | h
            · exact absurd h e1
            · exact absurd h e2
            · exact h
          have e3' := eq_true e3
          have e4' := eq_true e4
          simp (disch := first | assumption | omega | (simp only [List.length_cons, List.length_nil, List.length_set, List.length_append, List.length_replicate, List.length_map, List.length_range, List.length_take, List.length_drop, nums_length, bools_length, vecs_length]; first | done | omega)) [hj4, haj, waj, wj, hjn, hgV, wla, wP1, v0, v1, e1, e2, e3', e4', hgc, wc, nums_set, hcs, hT]
    · have hj0 : a + min 4 (N - a) = min (a + 4) N := by omega
      rw [hj0]
      by_cases e : a + 4 ≤ N
      · have : min 4 (N - a) = 4 := by omega
        rw [this]
        simp (disch := first | assumption | omega | (simp only [List.length_cons, List.length_nil, List.length_set, List.length_append, List.length_replicate, List.length_map, List.length_range, List.length_take, List.length_drop, nums_length, bools_length, vecs_length]; first | done | omega)) [wa4]
      · have f1 : ((min 4 (N - a) : Nat) : Int) < 4 := by omega
        have f2 : ¬ (a : Int) + ((min 4 (N - a) : Nat) : Int) < q := by omega
        have f3 : IntKind.i64.wrap ((a : Int) + ((min 4 (N - a) : Nat) : Int)) = (a : Int) + ((min 4 (N - a) : Nat) : Int) := i64_in _ (by omega)
        generalize ((min 4 (N - a) : Nat) : Int) = J at *
        simp (disch := first | assumption | omega | (simp only [List.length_cons, List.length_nil, List.length_set, List.length_append, List.length_replicate, List.length_map, List.length_range, List.length_take, List.length_drop, nums_length, bools_length, vecs_length]; first | done | omega)) [wa4, f1, f2, f3]
  · have hmin : min (4 * ((N + 3) / 4)) N = N := by omega
    have hnc : ¬ ((4 * ((N + 3) / 4) : Nat) : Int) + 3 < q + 3 := by omega
    have wa3 : IntKind.i64.wrap (((4 * ((N + 3) / 4) : Nat) : Int) + 3) = ((4 * ((N + 3) / 4) : Nat) : Int) + 3 := i64_in _ (by omega)
    rw [hmin]
    generalize ((4 * ((N + 3) / 4) : Nat) : Int) = A4 at *
    have hcl := cl_len q D M N
    have hcat : ∀ i, i < M → ni (cl q D M N) i = cnt q D N i := fun i hi => cl_ni hi
    generalize cl q D M N = C at *
    have hlb := lastAt_bound hb N
    generalize lastAt q D N = la at *
    simp (disch := first | assumption | omega | (simp only [List.length_cons, List.length_nil, List.length_set, List.length_append, List.length_replicate, List.length_map, List.length_range, List.length_take, List.length_drop, nums_length, bools_length, vecs_length]; first | done | omega)) [hnc, wa3, wq3]
    refine w_heads M (fun i => ⟨[(15, .i .i64 (i : Nat)), (9, .i .i64 la), (8, .rs 38 0 M 1), (7, .i .i64 (P D)), (6, .rf 6 0), (5, .b true)], [(38, nums .i64 C), (6, [.i .i64 q, .i .i64 4])]⟩) (by simp (disch := first | assumption | omega | (simp only [List.length_cons, List.length_nil, List.length_set, List.length_append, List.length_replicate, List.length_map, List.length_range, List.length_take, List.length_drop, nums_length, bools_length, vecs_length]; first | done | omega)) []) ?_ ?_
    · intro i hi
      have wi : IntKind.i64.wrap ((i : Int) + 1) = (i : Int) + 1 := i64_in _ (by omega)
      have hin' : (i : Int).toNat = i := Int.toNat_natCast _
      have hg := nums_get (k := .i64) (L := C) (j := i) (by omega)
      have hc2 := c2 i hi
      rw [← hcat i hi] at hc2
      have hqd : q.tdiv (P D) = q / P D := Int.tdiv_eq_ediv_of_nonneg (by omega)
      have hqd0 : 0 ≤ q / P D ∧ q / P D ≤ q := ⟨Int.ediv_nonneg (by omega) (by omega), Int.ediv_le_self _ (by omega)⟩
      have wd1 : IntKind.i64.wrap (q / P D) = q / P D := i64_in _ (by omega)
      have wd2 : IntKind.i64.wrap (q / P D + 1) = q / P D + 1 := i64_in _ (by omega)
      have hlt : (i : Int) < P D := by omega
      have hp0 : P D ≠ 0 := by omega
      have x1 : ¬ ni C i < q / P D := by omega
      have x2 : ¬ q / P D + 1 < ni C i := by omega
      generalize hT : (i : Int) = T at *
      simp (disch := first | assumption | omega | (simp only [List.length_cons, List.length_nil, List.length_set, List.length_append, List.length_replicate, List.length_map, List.length_range, List.length_take, List.length_drop, nums_length, bools_length, vecs_length]; first | done | omega)) [wi, hin', hg, hqd, wd1, wd2, hlt, hp0, x1, x2, hT]
    · have hlt : ¬ ((M : Nat) : Int) < P D := by omega
      have wm : IntKind.i64.wrap (2 * P D) = 2 * P D := i64_in _ (by omega)
      generalize ((M : Nat) : Int) = M1 at *
      by_cases e : la = 0
      · simp (disch := first | assumption | omega | (simp only [List.length_cons, List.length_nil, List.length_set, List.length_append, List.length_replicate, List.length_map, List.length_range, List.length_take, List.length_drop, nums_length, bools_length, vecs_length]; first | done | omega)) [hlt, e]
      · have e2 : q < 2 * P D := by rcases c3 with h | h; exact absurd h e; exact h
        simp (disch := first | assumption | omega | (simp only [List.length_cons, List.length_nil, List.length_set, List.length_append, List.length_replicate, List.length_map, List.length_range, List.length_take, List.length_drop, nums_length, bools_length, vecs_length]; first | done | omega)) [hlt, e, wm, e2]
end Zab.YtcebddjidpbhgaaDoorB
