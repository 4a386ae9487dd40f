/- The statements of chapter 7: the examples; what is what. -/
import Derived.Test.YtcebddjidpbhgaaDoorRou2
import Derived.Test.YtcebddjidpbhgaaDoorSee
import Derived.Test.YtcebddjidpbhgaaDoorNum
import Derived.Test.YtcebddjidpbhgaaDoorMake
import Derived.KernelRfl
import Derived.Test.YtcebddjidpbhgaaDoorZabData
namespace Zab.YtcebddjidpbhgaaDoor
open Go
open Go.IntWalk (i64_in)
set_option maxRecDepth 100000
set_option linter.unusedSimpArgs false
set_option linter.unusedVariables false
attribute [-simp] getElem?_pos
attribute [local simp ↓] W_loop W_seq W_skip W_ret W_exit W_reg W_cond W_block W_pre cleanO_some freezes_nil freezes_cons frzO_some andThen_normal andThen_ret andThen_exit unblock_normal unblock_ret unblock_exit Ends_normal Ends_ret steps_nil steps_cons step_some st_move st_pick st_bin st_un st_conv st_addr sv_ixA sv_ixS sv_fld sv_ixV st_ixStr st_ext sv_build sv_bsl sv_mkS st_mkfn sv_lenS sv_len st_mn st_mx st_nilChk st_tas st_slc sv_loadg sv_load st_call sv_store sv_box sv_alloc sv_mkR sv_bslR sv_nilR sv_app st_callK stepsAt_some onSome_some onB_true onB_false onG_tt onG_tf onG_ft onG_ff onG_un optPut_some optMem_some
attribute [local simp] evalO evalL constAV get_cons get_nil put_cons put_nil look_cons look_nil putD_some clean_mk freeze_mk mapS del_cons del_nil keepS_cons keepS_nil keepL_cons keepL_nil memb_cons memb_nil unV pureV convV_i addrV toArgs anyRs hasSl2L fromRetL finR resL resV toRets one Nat.beq Nat.ble shiftV_shr shiftV_shl IntKind.bits fillV List.getElem?_cons_zero List.getElem?_cons_succ List.length_cons List.length_nil List.set_cons_zero List.set_cons_succ setR2 setR3 zrep_eqs binV_i binI_shl binI_shr binI_eqs binV_eqs intV_quo intV_rem hasSlL mapR_eqs kill1_eqs frz1_eqs enterS_eqs enterL_eqs isRs_eqs toArg_eqs from1_eqs from_eqs toRet_eqs lentOf_eqs countR_eqs hasSl1_eqs hasSl2_eqs hasSl_eqs cellsOf_ag1 cellsOf_ag2 cellsOf_ag3 cellsOf_ag4 cellsOf_ag5 partV_2 partV_3 partV_4 partV_5 toRet_own ownR_of toArg_rs seenR_all seenR_part appS_rs appR_of srcV_sl srcV_z nilS_z bslS_some dec_t dec_f buildV_some bslV_some boxS_some root_mk ixSV_sl ixSV_rs ixAV_rf ixAV_el ixVV_ag fldV_ag lenV_sl lenV_rs lenV_z lenSV_s loadV_rf loadV_el loadR_some partV_none partV_all partV_some storeV_rf setR_one setR_all cellsOf_ag cellsOf_i cellsOf_b cellsOf_sl cellsOf_z cellsOf_er cellsOf_nl cellsOf_np cellsOf_s mkSV_of mkRS_of fl_map fl_kill fl_frz fl_enterS fl_enterL fl_lentOf fl_toArg fl_isRs fl_toRet fl_from1 fl_from fl_cells fl_countR nums_length nums_get nums_set nums_append nums_snoc nums_drop nums_take nums_zrep nums_hasSl bools_length bools_get bools_set bools_snoc bools_zrep bools_hasSl vecs_length vecs_get vecs_snoc slcV_sl idxO idx Nat.zero_add Nat.mul_one Nat.add_zero stepsAt_some onSome_some onB_true onB_false onG_tt onG_tf onG_ft onG_ff onG_un optPut_some optMem_some

theorem first7 : FF tab 18 [] = some ⟨.b true, []⟩ := FF_of (n := 60) (by kernel_rfl)

/-- The first that is none. -/
theorem mods_not {q : Int} {L : List Int} (h : ¬ Mods q L) : ∃ j, j < L.length ∧ (ni L j < 0 ∨ q ≤ ni L j) ∧ ∀ i, i < j → 0 ≤ ni L i ∧ ni L i < q := by
  by_cases e : ∀ m j, m = j → j < L.length → 0 ≤ ni L j ∧ ni L j < q
  · exact absurd (mods_step fun j hj => e j j rfl hj) h
  · have ex : ∃ j, j < L.length ∧ (ni L j < 0 ∨ q ≤ ni L j) := by
      refine Classical.byContradiction fun hn => e fun m j _ hj => ?_
      by_cases h1 : ni L j < 0 ∨ q ≤ ni L j
      · exact absurd ⟨j, hj, h1⟩ hn
      · omega
    have : ∀ m, (∃ j, j ≤ m ∧ j < L.length ∧ (ni L j < 0 ∨ q ≤ ni L j)) → ∃ j, j < L.length ∧ (ni L j < 0 ∨ q ≤ ni L j) ∧ ∀ i, i < j → 0 ≤ ni L i ∧ ni L i < q := by
      intro m
      induction m with
      | zero => rintro ⟨j, hj, hl, hb⟩; exact ⟨j, hl, hb, fun i hi => by omega⟩
      | succ m ih =>
        rintro ⟨j, hj, hl, hb⟩
        by_cases hx : ∃ j, j ≤ m ∧ j < L.length ∧ (ni L j < 0 ∨ q ≤ ni L j)
        · exact ih hx
        · refine ⟨j, hl, hb, fun i hi => ?_⟩
          by_cases h1 : ni L i < 0 ∨ q ≤ ni L i
          · exact absurd ⟨i, by omega, by omega, h1⟩ hx
          · omega
    obtain ⟨j, hj, hb⟩ := ex
    exact this j ⟨j, Nat.le_refl _, hj, hb⟩
def downBad (q n d : Int) (L : List Int) : Nat := if fairBad q n d ≠ 0 then 101 else vecBad q n L
theorem downBad_code (q n d : Int) (L : List Int) : Code (downBad q n d L) := by
  unfold downBad; split
  · unfold Code; simp
  · exact vecBad_code _ _ _
set_option maxHeartbeats 4000000 in
theorem RoundSays (q n d : Int) (x : AV) (L : List Int) (hxN : IsNums .i64 x L) : FF tab 4 [(.ag [.i .i64 (q), .i .i64 (n)]), .i .i64 d, x] = some ⟨.b true, []⟩ := by
  refine call_by (A := A4) rfl rfl ?_
  have hx := hxN.isL
  have fx := hx.flat
  have hlen := lenV_isL hx
  have h1 := first7
  by_cases hn : 64 < n
  · simp (disch := first | assumption | omega | (simp only [List.length_cons, List.length_nil, List.length_set, List.length_append, List.length_replicate, List.length_map, List.length_range, List.length_take, List.length_drop, nums_length, bools_length, vecs_length]; first | done | omega)) [A4, h1, hn]
  by_cases hl : 70 < (L.length : Int)
  · simp (disch := first | assumption | omega | (simp only [List.length_cons, List.length_nil, List.length_set, List.length_append, List.length_replicate, List.length_map, List.length_range, List.length_take, List.length_drop, nums_length, bools_length, vecs_length]; first | done | omega)) [A4, h1, hn, hlen, hl]
  have hs : L.length < 9223372036854775807 := by omega
  have hV := fValid q n
  have hB := Bitted q n d
  have hX := rDown_bad q n d hx hs
  have hY := rUp q n d hx hs
  have cv := vecBad_code q n L
  have cu := upBad_code q n d L
  have fv := errV_flat (vecBad q n L)
  have fu := errV_flat (upBad q n d L)
  have iv := SeeIs cv (vecBad q n L)
  have iu := SeeIs cu (upBad q n d L)
  have i0 : FF tab 25 [.nl, .i .i64 0] = some ⟨.b true, []⟩ := SeeIs (c := 0) (.inl rfl) 0
  have i1 := SeeIs (c := 101) (by unfold Code; simp) 101
  rw [show errV 101 = .er 1 from rfl] at i1
  rcases valid_two q n with hv | hv
  · rw [hv] at hV
    by_cases hb : Bits q d
    · have hf : fairBad q n d = 0 := by unfold fairBad; rw [if_neg (by omega), if_pos hb]
      have hW := fVector q n hx hs
      obtain ⟨hq, hdg⟩ : Right q ∧ Deg n := by unfold valid at hv; split at hv <;> simp_all
      have hp := P_bound hb.1 hb.2.1
      have b1 := hb.1
      have b2 := hb.2.1
      have wd := u64_in (a := d) (by omega) (by omega)
      have s1 := shl_P (a := 1) (d := d) (b := P d) (by omega) (by omega) (by omega) (by omega)
      have hbad : upBad q n d L = if (L.length : Int) ≠ n then 102 else if Mods (P d) L then 0 else 101 := by unfold upBad; rw [if_neg (by omega)]
      have hln : (L.length : Int) = n ∨ ¬ (L.length : Int) = n := by omega
      have tailD : ∃ X, FF tab 20 [(.ag [.i .i64 (q), .i .i64 (n)]), .i .i64 d, x] = some ⟨.tp [X, errV (vecBad q n L)], []⟩ ∧ ((vecBad q n L ≠ 0 ∧ X = .z) ∨ (vecBad q n L = 0 ∧ X = .os (nums .i64 (downL q d L)) L.length 1 ∧ FF tab 27 [(.ag [.i .i64 (q), .i .i64 (n)]), .i .i64 d, x] = some ⟨.os (nums .i64 (downL q d L)) L.length 1, []⟩)) := by
        by_cases h0 : vecBad q n L = 0
        · have hm := vecBad_zero.1 h0
          exact ⟨_, by rw [h0]; exact rDown q n hx hb h0, .inr ⟨h0, rfl, fDown q n hq hx hb hm.2.2.2 (by omega)⟩⟩
        · rw [if_neg (by omega)] at hX
          exact ⟨_, hX (.inr h0), .inl ⟨h0, rfl⟩⟩
      have tailU : ∃ Y, FF tab 24 [(.ag [.i .i64 (q), .i .i64 (n)]), .i .i64 d, x] = some ⟨.tp [Y, errV (upBad q n d L)], []⟩ ∧ ((upBad q n d L ≠ 0 ∧ Y = .z) ∨ (upBad q n d L = 0 ∧ Y = .os (nums .i64 (upL q d L)) L.length 1 ∧ FF tab 28 [(.ag [.i .i64 (q), .i .i64 (n)]), .i .i64 d, x] = some ⟨.os (nums .i64 (upL q d L)) L.length 1, []⟩)) := by
        refine ⟨_, hY, ?_⟩
        by_cases h0 : upBad q n d L = 0
        · have hm := upBad_zero.1 h0
          exact .inr ⟨h0, by rw [if_pos h0], fUp q n hq hx hb hm.2.2.2.2 (by omega)⟩
        · exact .inl ⟨h0, by rw [if_neg h0]⟩
      obtain ⟨X, hX, hX2⟩ := tailD
      obtain ⟨Y, hY, hY2⟩ := tailU
      have hSX := SameInts (IsL.mk .i64 (downL q d L)) (IsL.mk .i64 (downL q d L)) (by rw [downL_len]; exact hs)
      have hSY := SameInts (IsL.mk .i64 (upL q d L)) (IsL.mk .i64 (upL q d L)) (by rw [upL_len]; exact hs)
      simp only [slv, downL_len, upL_len, decide_true] at hSX hSY
      have ui : (upBad q n d L : Int) = if (L.length : Int) ≠ n then 102 else if Mods (P d) L then 0 else 101 := by rw [hbad]; split <;> (try split) <;> rfl
      rcases hln with hln | hln
      · simp (disch := first | assumption | omega | (simp only [List.length_cons, List.length_nil, List.length_set, List.length_append, List.length_replicate, List.length_map, List.length_range, List.length_take, List.length_drop, nums_length, bools_length, vecs_length]; first | done | omega)) [A4, h1, hn, hlen, hl, hV, hB, hb, hW, hln]
        refine w_reach (fun i => ⟨[(11, .i .i64 i), (10, .i .i64 (upBad q n d L)), (9, .i .i64 (vecBad q n L)), (7, .b true), (3, .rf 3 0), (2, x), (1, .i .i64 d)], [(3, [.i .i64 q, .i .i64 n])]⟩) (fun i => upBad q n d L ≠ 0 ∨ ¬ i < (L.length : Int)) ?_ ?_
        · intro i hR
          generalize upBad q n d L = u at *
          generalize vecBad q n L = v at *
          rcases hX2 with ⟨hv0, rfl⟩ | ⟨rfl, rfl, hDD⟩
          · have hv0' : ¬ (v : Int) = 0 := by omega
            rcases hY2 with ⟨hu0, rfl⟩ | ⟨rfl, rfl, hUU⟩
            · have hu0' : ¬ (u : Int) = 0 := by omega
              by_cases hil : i < (L.length : Int)
              · simp (disch := first | assumption | omega | (simp only [List.length_cons, List.length_nil, List.length_set, List.length_append, List.length_replicate, List.length_map, List.length_range, List.length_take, List.length_drop, nums_length, bools_length, vecs_length]; first | done | omega)) [hlen, hX, hY, iv, iu, i0, hv0', hu0', hil]
              · simp (disch := first | assumption | omega | (simp only [List.length_cons, List.length_nil, List.length_set, List.length_append, List.length_replicate, List.length_map, List.length_range, List.length_take, List.length_drop, nums_length, bools_length, vecs_length]; first | done | omega)) [hlen, hX, hY, iv, iu, i0, hv0', hu0', hil]
            · rw [show errV 0 = .nl from rfl] at hY iu
              have hil : ¬ i < (L.length : Int) := by rcases hR with h | h; exact absurd rfl h; exact h
              generalize upL q d L = UL at *
              simp (disch := first | assumption | omega | (simp only [List.length_cons, List.length_nil, List.length_set, List.length_append, List.length_replicate, List.length_map, List.length_range, List.length_take, List.length_drop, nums_length, bools_length, vecs_length]; first | done | omega)) [hlen, hX, hY, iv, iu, i0, hv0', hUU, hSY, hil]
          · rw [show errV 0 = .nl from rfl] at hX iv
            generalize downL q d L = DL at *
            rcases hY2 with ⟨hu0, rfl⟩ | ⟨rfl, rfl, hUU⟩
            · have hu0' : ¬ (u : Int) = 0 := by omega
              by_cases hil : i < (L.length : Int)
              · simp (disch := first | assumption | omega | (simp only [List.length_cons, List.length_nil, List.length_set, List.length_append, List.length_replicate, List.length_map, List.length_range, List.length_take, List.length_drop, nums_length, bools_length, vecs_length]; first | done | omega)) [hlen, hX, hY, iv, iu, i0, hu0', hDD, hSX, hil]
              · simp (disch := first | assumption | omega | (simp only [List.length_cons, List.length_nil, List.length_set, List.length_append, List.length_replicate, List.length_map, List.length_range, List.length_take, List.length_drop, nums_length, bools_length, vecs_length]; first | done | omega)) [hlen, hX, hY, iv, iu, i0, hu0', hDD, hSX, hil]
            · rw [show errV 0 = .nl from rfl] at hY iu
              have hil : ¬ i < (L.length : Int) := by rcases hR with h | h; exact absurd rfl h; exact h
              generalize upL q d L = UL at *
              simp (disch := first | assumption | omega | (simp only [List.length_cons, List.length_nil, List.length_set, List.length_append, List.length_replicate, List.length_map, List.length_range, List.length_take, List.length_drop, nums_length, bools_length, vecs_length]; first | done | omega)) [hlen, hX, hY, iv, iu, i0, hDD, hUU, hSX, hSY, hil]
        · by_cases hm : Mods (P d) L
          · refine ⟨L.length, fun k => ⟨[(11, .i .i64 k), (10, .i .i64 0), (9, .i .i64 (vecBad q n L)), (7, .b true), (3, .rf 3 0), (2, x), (1, .i .i64 d)], [(3, [.i .i64 q, .i .i64 n])]⟩, L.length, by simp (disch := first | assumption | omega | (simp only [List.length_cons, List.length_nil, List.length_set, List.length_append, List.length_replicate, List.length_map, List.length_range, List.length_take, List.length_drop, nums_length, bools_length, vecs_length]; first | done | omega)) [], ?_, .inr (by omega), ?_⟩
            · rw [ui, if_neg (by omega), if_pos hm]
            · intro k hk
              have w1 : IntKind.i64.wrap ((k : Int) + 1) = (k : Int) + 1 := i64_in _ (by omega)
              have hkn : (k : Int).toNat = k := Int.toNat_natCast _
              have hix := ixSV_isL hx (k' := .i64) (j := (k : Int)) (by omega) (by omega)
              rw [hkn] at hix
              have hgx := nums_get (k := .i64) hk
              have hr := mods_at hm hk
              have hlt : (k : Int) < (L.length : Int) := by omega
              have hr1 : ¬ ni L k < 0 := by omega
              have hr2 : ¬ P d ≤ ni L k := by omega
              generalize hT : (k : Int) = T at *
              generalize (vecBad q n L : Int) = V at *
              simp (disch := first | assumption | omega | (simp only [List.length_cons, List.length_nil, List.length_set, List.length_append, List.length_replicate, List.length_map, List.length_range, List.length_take, List.length_drop, nums_length, bools_length, vecs_length]; first | done | omega)) [hlen, hix, hgx, w1, hT, hr1, hr2, hlt, wd, s1, -shiftV_shl]
          · obtain ⟨j0, hj0, hjb, hja⟩ := mods_not hm
            refine ⟨j0 + 1, fun k => ⟨[(11, .i .i64 k), (10, .i .i64 (if k ≤ j0 then 0 else 101)), (9, .i .i64 (vecBad q n L)), (7, .b true), (3, .rf 3 0), (2, x), (1, .i .i64 d)], [(3, [.i .i64 q, .i .i64 n])]⟩, j0 + 1, by simp (disch := first | assumption | omega | (simp only [List.length_cons, List.length_nil, List.length_set, List.length_append, List.length_replicate, List.length_map, List.length_range, List.length_take, List.length_drop, nums_length, bools_length, vecs_length]; first | done | omega)) [], ?_, .inl ?_, ?_⟩
            · rw [ui, if_neg (by omega), if_neg hm]; simp
            · rw [hbad, if_neg (by omega), if_neg hm]; omega
            · intro k hk
              have w1 : IntKind.i64.wrap ((k : Int) + 1) = (k : Int) + 1 := i64_in _ (by omega)
              have hkn : (k : Int).toNat = k := Int.toNat_natCast _
              have hix := ixSV_isL hx (k' := .i64) (j := (k : Int)) (by omega) (by omega)
              rw [hkn] at hix
              have hgx := nums_get (k := .i64) (L := L) (j := k) (by omega)
              have hlt : (k : Int) < (L.length : Int) := by omega
              have c0 : k ≤ j0 := by omega
              by_cases e : k = j0
              · subst e
                have c1 : ¬ k + 1 ≤ k := by omega
                generalize hT : (k : Int) = T at *
                generalize (vecBad q n L : Int) = V at *
                by_cases hr1 : ni L k < 0
                · simp (disch := first | assumption | omega | (simp only [List.length_cons, List.length_nil, List.length_set, List.length_append, List.length_replicate, List.length_map, List.length_range, List.length_take, List.length_drop, nums_length, bools_length, vecs_length]; first | done | omega)) [hlen, hix, hgx, w1, hT, hr1, c0, c1, hlt, wd, s1, -shiftV_shl]
                · have hr2 : P d ≤ ni L k := by rcases hjb with h | h; exact absurd h hr1; exact h
                  simp (disch := first | assumption | omega | (simp only [List.length_cons, List.length_nil, List.length_set, List.length_append, List.length_replicate, List.length_map, List.length_range, List.length_take, List.length_drop, nums_length, bools_length, vecs_length]; first | done | omega)) [hlen, hix, hgx, w1, hT, hr1, hr2, c0, c1, hlt, wd, s1, -shiftV_shl]
              · have hr := hja k (by omega)
                have hr1 : ¬ ni L k < 0 := by omega
                have hr2 : ¬ P d ≤ ni L k := by omega
                have c1 : k + 1 ≤ j0 := by omega
                generalize hT : (k : Int) = T at *
                generalize (vecBad q n L : Int) = V at *
                simp (disch := first | assumption | omega | (simp only [List.length_cons, List.length_nil, List.length_set, List.length_append, List.length_replicate, List.length_map, List.length_range, List.length_take, List.length_drop, nums_length, bools_length, vecs_length]; first | done | omega)) [hlen, hix, hgx, w1, hT, hr1, hr2, c0, c1, hlt, wd, s1, -shiftV_shl]
      · simp (disch := first | assumption | omega | (simp only [List.length_cons, List.length_nil, List.length_set, List.length_append, List.length_replicate, List.length_map, List.length_range, List.length_take, List.length_drop, nums_length, bools_length, vecs_length]; first | done | omega)) [A4, h1, hn, hlen, hl, hV, hB, hb, hW, hln]
        refine w_reach (fun i => ⟨[(11, .i .i64 i), (10, .i .i64 (upBad q n d L)), (9, .i .i64 (vecBad q n L)), (7, .b true), (3, .rf 3 0), (2, x), (1, .i .i64 d)], [(3, [.i .i64 q, .i .i64 n])]⟩) (fun i => upBad q n d L ≠ 0 ∨ ¬ i < (L.length : Int)) ?_ ?_
        · intro i hR
          generalize upBad q n d L = u at *
          generalize vecBad q n L = v at *
          rcases hX2 with ⟨hv0, rfl⟩ | ⟨rfl, rfl, hDD⟩
          · have hv0' : ¬ (v : Int) = 0 := by omega
            rcases hY2 with ⟨hu0, rfl⟩ | ⟨rfl, rfl, hUU⟩
            · have hu0' : ¬ (u : Int) = 0 := by omega
              by_cases hil : i < (L.length : Int)
              · simp (disch := first | assumption | omega | (simp only [List.length_cons, List.length_nil, List.length_set, List.length_append, List.length_replicate, List.length_map, List.length_range, List.length_take, List.length_drop, nums_length, bools_length, vecs_length]; first | done | omega)) [hlen, hX, hY, iv, iu, i0, hv0', hu0', hil]
              · simp (disch := first | assumption | omega | (simp only [List.length_cons, List.length_nil, List.length_set, List.length_append, List.length_replicate, List.length_map, List.length_range, List.length_take, List.length_drop, nums_length, bools_length, vecs_length]; first | done | omega)) [hlen, hX, hY, iv, iu, i0, hv0', hu0', hil]
            · exact absurd hbad (by rw [if_pos hln]; omega)
          · rw [show errV 0 = .nl from rfl] at hX iv
            generalize downL q d L = DL at *
            rcases hY2 with ⟨hu0, rfl⟩ | ⟨rfl, rfl, hUU⟩
            · have hu0' : ¬ (u : Int) = 0 := by omega
              by_cases hil : i < (L.length : Int)
              · simp (disch := first | assumption | omega | (simp only [List.length_cons, List.length_nil, List.length_set, List.length_append, List.length_replicate, List.length_map, List.length_range, List.length_take, List.length_drop, nums_length, bools_length, vecs_length]; first | done | omega)) [hlen, hX, hY, iv, iu, i0, hu0', hDD, hSX, hil]
              · simp (disch := first | assumption | omega | (simp only [List.length_cons, List.length_nil, List.length_set, List.length_append, List.length_replicate, List.length_map, List.length_range, List.length_take, List.length_drop, nums_length, bools_length, vecs_length]; first | done | omega)) [hlen, hX, hY, iv, iu, i0, hu0', hDD, hSX, hil]
            · exact absurd hbad (by rw [if_pos hln]; omega)
        · refine ⟨0, fun _ => ⟨[(11, .i .i64 0), (10, .i .i64 102), (9, .i .i64 (vecBad q n L)), (7, .b true), (3, .rf 3 0), (2, x), (1, .i .i64 d)], [(3, [.i .i64 q, .i .i64 n])]⟩, 0, by simp (disch := first | assumption | omega | (simp only [List.length_cons, List.length_nil, List.length_set, List.length_append, List.length_replicate, List.length_map, List.length_range, List.length_take, List.length_drop, nums_length, bools_length, vecs_length]; first | done | omega)) [], ?_, .inl ?_, fun i h => absurd h (Nat.not_lt_zero i)⟩
          · rw [ui, if_pos hln]
          · rw [hbad, if_pos hln]; omega
    · have hf : fairBad q n d = 101 := by unfold fairBad; rw [if_neg (by omega), if_neg hb]
      have hu : upBad q n d L = 101 := by unfold upBad; rw [if_pos (by omega)]
      have hX := hX (.inl (by omega))
      rw [if_pos (by omega), hf] at hX
      rw [if_neg (by omega), hu] at hY
      rw [show errV 101 = .er 1 from rfl] at hX hY
      simp (disch := first | assumption | omega | (simp only [List.length_cons, List.length_nil, List.length_set, List.length_append, List.length_replicate, List.length_map, List.length_range, List.length_take, List.length_drop, nums_length, bools_length, vecs_length]; first | done | omega)) [A4, h1, hn, hlen, hl, hV, hB, hb, hX, hY, i1]
  · have hf : fairBad q n d = 101 := by unfold fairBad; rw [if_pos (by omega)]
    have hu : upBad q n d L = 101 := by unfold upBad; rw [if_pos (by omega)]
    have hX := hX (.inl (by omega))
    rw [if_pos (by omega), hf] at hX
    rw [if_neg (by omega), hu] at hY
    rw [hv] at hV
    rw [show errV 101 = .er 1 from rfl] at hX hY
    simp (disch := first | assumption | omega | (simp only [List.length_cons, List.length_nil, List.length_set, List.length_append, List.length_replicate, List.length_map, List.length_range, List.length_take, List.length_drop, nums_length, bools_length, vecs_length]; first | done | omega)) [A4, h1, hn, hlen, hl, hV, hX, hY, i1]
end Zab.YtcebddjidpbhgaaDoor
