/- The statements of chapter 2: numbers as vectors. -/
import Derived.Test.YtcebddjidpbhgaaDoorRingN
import Derived.Test.YtcebddjidpbhgaaDoorSee
import Derived.Test.YtcebddjidpbhgaaDoorNum
namespace Zab.YtcebddjidpbhgaaDoor
open Go
open Go.IntWalk (i64_in)
set_option maxRecDepth 100000
set_option linter.unusedSimpArgs false
set_option linter.unusedVariables false
attribute [-simp] getElem?_pos
attribute [local simp ↓] W_loop W_seq W_skip W_ret W_exit W_reg W_cond W_block W_pre cleanO_some freezes_nil freezes_cons frzO_some andThen_normal andThen_ret andThen_exit unblock_normal unblock_ret unblock_exit Ends_normal Ends_ret steps_nil steps_cons step_some st_move st_pick st_bin st_un st_conv st_addr sv_ixA sv_ixS sv_fld sv_ixV st_ixStr st_ext sv_build sv_bsl sv_mkS st_mkfn sv_lenS sv_len st_mn st_mx st_nilChk st_tas st_slc sv_loadg sv_load st_call sv_store sv_box sv_alloc sv_mkR sv_bslR sv_nilR sv_app st_callK stepsAt_some onSome_some onB_true onB_false onG_tt onG_tf onG_ft onG_ff onG_un optPut_some optMem_some
attribute [local simp] evalO evalL constAV get_cons get_nil put_cons put_nil look_cons look_nil putD_some clean_mk freeze_mk mapS del_cons del_nil keepS_cons keepS_nil keepL_cons keepL_nil memb_cons memb_nil unV pureV convV_i addrV toArgs anyRs hasSl2L fromRetL finR resL resV toRets one Nat.beq Nat.ble shiftV_shr shiftV_shl IntKind.bits fillV List.getElem?_cons_zero List.getElem?_cons_succ List.length_cons List.length_nil List.set_cons_zero List.set_cons_succ setR2 setR3 zrep_eqs binV_i binI_shl binI_shr binI_eqs binV_eqs binV_slcE binV_slcN intV_quo intV_rem hasSlL mapR_eqs kill1_eqs frz1_eqs enterS_eqs enterL_eqs isRs_eqs toArg_eqs from1_eqs from_eqs toRet_eqs lentOf_eqs countR_eqs hasSl1_eqs hasSl2_eqs hasSl_eqs cellsOf_ag1 cellsOf_ag2 cellsOf_ag3 cellsOf_ag4 cellsOf_ag5 partV_2 partV_3 partV_4 partV_5 toRet_own ownR_of toArg_rs seenR_all seenR_part appS_rs appR_of srcV_sl srcV_z nilS_z bslS_some dec_t dec_f buildV_some bslV_some boxS_some root_mk ixSV_sl ixSV_rs ixAV_rf ixAV_el ixVV_ag fldV_ag lenV_sl lenV_rs lenV_z lenSV_s loadV_rf loadV_el loadR_some partV_none partV_all partV_some storeV_rf setR_one setR_all cellsOf_ag cellsOf_i cellsOf_b cellsOf_sl cellsOf_z cellsOf_er cellsOf_nl cellsOf_np cellsOf_s mkSV_of mkRS_of fl_map fl_kill fl_frz fl_enterS fl_enterL fl_lentOf fl_toArg fl_isRs fl_toRet fl_from1 fl_from fl_cells fl_countR nums_length nums_get nums_set nums_append nums_snoc nums_drop nums_take nums_zrep nums_hasSl bools_length bools_get bools_set bools_snoc bools_zrep bools_hasSl vecs_length vecs_get vecs_snoc slcV_sl idxO idx Nat.zero_add Nat.mul_one Nat.add_zero stepsAt_some onSome_some onB_true onB_false onG_tt onG_tf onG_ft onG_ff onG_un optPut_some optMem_some

theorem leN (a b : Int) : binV .no .leq (.i .i64 a) (.i .i64 b) = some (.b (decide (a ≤ b))) := rfl
set_option maxHeartbeats 4000000 in
theorem RingMod (q0 : Int) (hq0 : inK .i64 q0) (n0 : Int) (hn0 : inK .i64 n0) (x : AV) (L : List Int) (hxN : IsNums .i64 x L) (y : AV) (M : List Int) (hyN : IsNums .i64 y M) (k : Int) (hk : inK .i64 k) :
    FF tab 11 [.i .i64 q0, .i .i64 n0, x, y, .i .i64 k] = some ⟨.b true, []⟩ := by
  refine call_by (A := A11) rfl rfl ?_
  have hx := hxN.isL
  have hy := hyN.isL
  have fx := hx.flat
  have fy := hy.flat
  have lx := lenV_isL hx
  have ly := lenV_isL hy
  have h1 := first2
  by_cases c1 : (L.length : Int) ≤ 40
  · by_cases c2 : (M.length : Int) ≤ 40
    · have hR := MakeRing q0 n0 hq0 hn0
      have hv := mk_valid q0 n0
      have hq := mkQ_right (q := q0)
      have hd4 := mkN_four (n := n0)
      generalize mkQ q0 = q at *
      generalize mkN n0 = n at *
      have qlo := hq.lo
      have qhi := hq.hi
      by_cases hl : (L.length : Int) = n
      · obtain ⟨mA, vA⟩ := mvN hv hy c2
        obtain ⟨N, hN⟩ : ∃ N : Nat, (N : Int) = n := ⟨n.toNat, by omega⟩
        have tN : n.toNat = N := by omega
        rw [tN] at mA vA
        generalize mkVec q n M = A at *
        have q0' : 0 < q := by omega
        have hN4 : 4 ≤ N ∧ N ≤ 32 := by omega
        have g1 := rMod q n hv hx hl
        have lLN : L.length = N := by omega
        rw [lLN] at g1
        have vX : VB q n N (L.map (· % q)) := vA.of (by simp [lLN]) (by
          intro a ha
          obtain ⟨b, _, rfl⟩ := List.mem_map.1 ha
          exact mod_in q0' b)
        have g2 := rVector q n (.mk .i64 (L.map (· % q))) (by rw [vX.len]; omega)
        rw [vX.slv, vX.bad, show errV 0 = .nl from rfl] at g2
        have in1 : ∀ a b : Int, 0 ≤ (a + b) % q ∧ (a + b) % q < q := fun a b => mod_in q0' _
        have vS := vX.zip (M := A) in1
        have g3 := adN vX vA
        have hNum := Number k 1000 (by omega) (by omega)
        have hnb := mod_in (q := 1000) (by omega) k
        generalize k % 1000 = m at *
        have wqm : IntKind.i64.wrap (q * m) = q * m := i64_in _ (by
          have h1 : q * m ≤ 8380417 * 1000 := Int.mul_le_mul qhi (by omega) hnb.1 (by omega)
          have h0 : 0 ≤ q * m := Int.mul_nonneg (by omega) hnb.1
          omega)
        have g4 := scN vX (q * m)
        have z0 : (L.map (· % q)).map (fun a => a * (q * m % q) % q) = List.replicate N 0 := by
          rw [Int.mul_emod_right]
          apply List.ext_getElem (by simp [lLN])
          intro j h1 h2
          simp
        rw [z0] at g4
        have g5 := noN vX
        have g6 := noN vA
        have g7 := noN vS
        have hle := norm_add (L := L.map (· % q)) (M := A) hq (by rw [vX.len, vA.len])
        have b1 := norm_lt hq (L.map (· % q))
        have b2 := norm_lt hq A
        have b3 := norm_nonneg q (L.map (· % q))
        have b4 := norm_nonneg q A
        have s5 := smN (N := N) (L := List.replicate N 0) (by simp) (by omega)
        have hat : ∀ j, j < N → ni (L.map (· % q)) j = ni L j % q := fun j hj => by
          rw [ni_get (by simp; omega), ni_get (by omega)]; simp
        have hinL := hxN.2
        have lX := vX.len
        clear hd4 hv vA vX vS in1 z0
        generalize zipTo (fun a b => (a + b) % q) (L.map (· % q)) A = S at *
        generalize L.map (· % q) = X at *
        simp (disch := first | assumption | omega | (simp only [List.length_cons, List.length_nil, List.length_set, List.length_append, List.length_replicate, List.length_map, List.length_range, List.length_take, List.length_drop, nums_length, bools_length, vecs_length]; first | done | omega)) [A11, h1, lx, ly, c1, c2, hR, hl, g1, g2]
        refine w_heads N (fun i => ⟨[(15, .i .i64 i), (13, .sl (nums .i64 X) N), (12, .rf 12 0), (11, .b true), (4, .i .i64 k), (3, y), (2, x)], [(12, [.i .i64 q, .i .i64 n])]⟩) (by simp (disch := first | assumption | omega | (simp only [List.length_cons, List.length_nil, List.length_set, List.length_append, List.length_replicate, List.length_map, List.length_range, List.length_take, List.length_drop, nums_length, bools_length, vecs_length]; first | done | omega)) []) ?_ ?_
        · intro i hi
          have w1 : IntKind.i64.wrap ((i : Int) + 1) = (i : Int) + 1 := i64_in _ (by omega)
          have hkn : (i : Int).toNat = i := Int.toNat_natCast _
          have hix := ixSV_isL hx (k' := .i64) (j := (i : Int)) (by omega) (by omega)
          rw [hkn] at hix
          have hgx := nums_get (k := .i64) (L := L) (j := i) (by omega)
          have hgy := nums_get (k := .i64) (L := X) (j := i) (by omega)
          have hv := hat i hi
          have a := mod_in q0' (ni L i)
          have hb : inK .i64 (ni L i) := hinL (ni L i) (by rw [ni_get (by omega)]; exact List.getElem_mem _)
          obtain ⟨e1, e2⟩ := inK_i64 hb
          rw [hv] at hgy
          have h0 : q ≠ 0 := by omega
          have hlt : (i : Int) < n := by omega
          by_cases hs : 0 ≤ ni L i
          · have wd : IntKind.i64.wrap (ni L i - ni L i % q) = ni L i - ni L i % q := i64_in _ (by omega)
            have td : (ni L i - ni L i % q).tmod q = 0 := by
              have : ni L i - ni L i % q = q * (ni L i / q) := by have := Int.mul_ediv_add_emod (ni L i) q; omega
              rw [this]
              exact Int.mul_tmod_right _ _
            generalize hT : (i : Int) = T at *
            generalize ni L i % q = V at *
            generalize ni L i = B at *
            simp (disch := first | assumption | omega | (simp only [List.length_cons, List.length_nil, List.length_set, List.length_append, List.length_replicate, List.length_map, List.length_range, List.length_take, List.length_drop, nums_length, bools_length, vecs_length]; first | done | omega)) [hkn, hix, hgx, hgy, w1, hT, hlt, h0, wd, td]
          · generalize hT : (i : Int) = T at *
            generalize hV : ni L i % q = V at *
            generalize ni L i = B at *
            by_cases hd : (IntKind.i64.wrap (B - V)).tmod q = 0
            · simp (disch := first | assumption | omega | (simp only [List.length_cons, List.length_nil, List.length_set, List.length_append, List.length_replicate, List.length_map, List.length_range, List.length_take, List.length_drop, nums_length, bools_length, vecs_length]; first | done | omega)) [hkn, hix, hgx, hgy, w1, hT, hlt, h0, hd]
            · simp (disch := first | assumption | omega | (simp only [List.length_cons, List.length_nil, List.length_set, List.length_append, List.length_replicate, List.length_map, List.length_range, List.length_take, List.length_drop, nums_length, bools_length, vecs_length]; first | done | omega)) [hkn, hix, hgx, hgy, w1, hT, hlt, h0, hd, hs]
        · have wle : IntKind.i64.wrap (normL q X + normL q A) = normL q X + normL q A := i64_in _ (by omega)
          generalize normL q X = nx at *
          generalize normL q A = na at *
          generalize normL q S = ns at *
          simp (disch := first | assumption | omega | (simp only [List.length_cons, List.length_nil, List.length_set, List.length_append, List.length_replicate, List.length_map, List.length_range, List.length_take, List.length_drop, nums_length, bools_length, vecs_length]; first | done | omega)) [hN, tN, mA, g3, hNum, wqm, g4, g5, g6, g7, s5, wle, hle, leN]
      · have g1 := rMod_bad q n hx (c := 102) (by rw [if_neg (by simp [hv])]) (.inr hl)
        have hi := SeeIs (c := 102) (by simp [Code]) 102
        rw [show errV 102 = .er 0 from rfl] at hi g1
        simp (disch := first | assumption | omega | (simp only [List.length_cons, List.length_nil, List.length_set, List.length_append, List.length_replicate, List.length_map, List.length_range, List.length_take, List.length_drop, nums_length, bools_length, vecs_length]; first | done | omega)) [A11, h1, lx, ly, c1, c2, hR, hl, g1, hi]
    · simp (disch := first | assumption | omega | (simp only [List.length_cons, List.length_nil, List.length_set, List.length_append, List.length_replicate, List.length_map, List.length_range, List.length_take, List.length_drop, nums_length, bools_length, vecs_length]; first | done | omega)) [A11, h1, lx, ly, c1, c2]
  · simp (disch := first | assumption | omega | (simp only [List.length_cons, List.length_nil, List.length_set, List.length_append, List.length_replicate, List.length_map, List.length_range, List.length_take, List.length_drop, nums_length, bools_length, vecs_length]; first | done | omega)) [A11, h1, lx, c1]
end Zab.YtcebddjidpbhgaaDoor
